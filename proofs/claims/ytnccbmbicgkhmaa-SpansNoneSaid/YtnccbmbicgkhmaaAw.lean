/- That the layer is awake. -/
import Derived.Test.YtnccbmbicgkhmaaAll
namespace Go.Proofs.Ytnccbmbicgkhmaa
open Go.RowKit

theorem aw_1 : allP 128 2047 = [[(194, 223), (128, 191)]] := by decide +kernel
theorem aw_2 : allP 5 4 = [] := by decide +kernel
/-- The cells of a row. -/
theorem own_cell {w : World} {base e size n cap g : Nat} {xs : List Value} (h : w.ownsRow base e size (.slice (some ⟨g, 0, none⟩) n cap) n xs) (j : Nat) (u : Value) (hu : xs[j]? = some u) : w.cell? ⟨g, j, none⟩ = some u := by
  have := h.cells (g := g) rfl j u hu
  rwa [Addr.add_lit, Nat.zero_add] at this
theorem rows_nil {w w' : World} {e : Ending} (h : RowsOf w [] e w') : ∃ A c, e = .returned (.slice A 0 c) ∧ Below w.heap.size w w' := by
  obtain ⟨v, l, rfl, hr, hm, hb⟩ := h
  have : l = [] := List.map_eq_nil_iff.1 hm
  subst this
  obtain ⟨A, c, rfl, _⟩ := own_shape hr.own
  exact ⟨A, c, rfl, hb⟩
theorem rows_one {w w' : World} {e : Ending} {a b c d : Int} (h : RowsOf w [[(a, b), (c, d)]] e w') : ∃ g k c1 c2, e = .returned (.slice (some ⟨g, 0, none⟩) 1 c1) ∧ 1 ≤ c1 ∧ 2 ≤ c2 ∧ w'.cell? ⟨g, 0, none⟩ = some (.slice (some ⟨k, 0, none⟩) 2 c2) ∧
    w'.cell? ⟨k, 0, none⟩ = some (.int .i64 a) ∧ w'.cell? ⟨k, 1, none⟩ = some (.int .i64 b) ∧ w'.cell? ⟨k, 2, none⟩ = some (.int .i64 c) ∧ w'.cell? ⟨k, 3, none⟩ = some (.int .i64 d) ∧ Below w.heap.size w w' := by
  obtain ⟨v, l, rfl, hr, hm, hb⟩ := h
  obtain ⟨R, rfl, hR⟩ : ∃ R, l = [R] ∧ R.r = [(a, b), (c, d)] := by
    clear hr
    cases l with
    | nil => simp at hm
    | cons R l' =>
      cases l' with
      | nil => exact ⟨R, rfl, by simpa using hm⟩
      | cons _ _ => simp at hm
  obtain ⟨A, c1, rfl, hc1⟩ := own_shape hr.own
  obtain ⟨g, rfl, _, _⟩ := own_head hr.own (by simp)
  obtain ⟨_, hi⟩ := hr.inn R (List.mem_singleton.2 rfl)
  have hv : R.val = .slice (some ⟨R.b, 0, none⟩) 2 R.cap := by unfold RR.val; rw [hR]; rfl
  have hc2 : 2 ≤ R.cap := by
    obtain ⟨A, c, e, hc⟩ := own_shape hi
    unfold RR.val at e
    rw [hR] at hc e
    injection e with _ _ e
    simp at hc
    omega
  rw [hv, hR] at hi
  refine ⟨g, R.b, c1, R.cap, rfl, hc1, hc2, ?_, ?_, ?_, ?_, ?_, hb⟩
  · rw [← hv]; exact own_cell hr.own 0 _ rfl
  · exact own_cell hi 0 _ rfl
  · exact own_cell hi 1 _ rfl
  · exact own_cell hi 2 _ rfl
  · exact own_cell hi 3 _ rfl

set_option maxRecDepth 100000 in
set_option maxHeartbeats 2000000 in
theorem awake_any (w : World) : Calls Try.prog 8 #[] w fun e w' => e = .returned (.bool true) ∧ Below w.heap.size w w' := by
  have h1 := all_any 128 2047 w
  have h2 := all_any 5 4
  rw [aw_1] at h1
  rw [aw_2] at h2
  have H1 := Lib.hid h1
  have H2 := Lib.hid h2
  clear h1 h2
  go_enter Try.func8, Try.ntmps8
  go_wp2_with fail
  refine (H1.out).mono ?_
  intro e w1 hh
  obtain ⟨g, k, c1, c2, rfl, hc1, hc2, x0, x1, x2, x3, x4, hb1⟩ := rows_one hh
  clear hh
  go_wp2_with fail
  refine (H2.out _).mono ?_
  intro e w2 hh
  obtain ⟨A, c, rfl, hb2⟩ := rows_nil hh
  clear hh x0 x1 x2 x3 x4
  have hB := bcall hb1 hb2
  go_wp2_with fail
  go_ret
  exact ⟨rfl, hB⟩
end Go.Proofs.Ytnccbmbicgkhmaa
