/- The law TierRises: its walk. -/
import Derived.Test.YtnhagnjikinimaaTierH
import Derived.OpenShut
namespace Go.Proofs.Ytnhagnjikinimaa
open Go.RowKit

theorem tierFrom_mono {a b : Int} (h : a ≤ b) : ∀ f k, tierFrom a f k ≤ tierFrom b f k
  | 0, k => Nat.le_refl _
  | f + 1, k => by
    unfold tierFrom
    by_cases h1 : 32 * P4 k ≤ a
    · rw [if_pos h1, if_pos (by omega)]; exact tierFrom_mono h f (k + 1)
    · rw [if_neg h1]
      split
      · have : ∀ f k, k ≤ tierFrom b f k := by
          intro f
          induction f with
          | zero => intro k; exact Nat.le_refl _
          | succ f ih => intro k; unfold tierFrom; split; (have := ih (k + 1); omega); exact Nat.le_refl _
        have := this f (k + 1)
        omega
      · exact Nat.le_refl _
theorem tierN_mono {a b : Int} (h : a ≤ b) : tierN a ≤ tierN b := tierFrom_mono h 20 0
theorem tierFrom_four (a : Int) : ∀ f k, tierFrom (4 * a) f (k + 1) = tierFrom a f k + 1
  | 0, k => rfl
  | f + 1, k => by
    unfold tierFrom
    have e : (32 * P4 (k + 1) ≤ 4 * a) ↔ (32 * P4 k ≤ a) := by rw [P4_succ]; omega
    by_cases h : 32 * P4 k ≤ a
    · rw [if_pos h, if_pos (e.2 h), tierFrom_four a f (k + 1)]
    · rw [if_neg h, if_neg (fun h' => h (e.1 h'))]
theorem tierFrom_more (a : Int) : ∀ f k, tierFrom a f k < k + f → tierFrom a (f + 1) k = tierFrom a f k
  | 0, k, h => by simp [tierFrom] at h
  | f + 1, k, h => by
    rw [tierFrom] at h
    conv => lhs; rw [tierFrom]
    conv => rhs; rw [tierFrom]
    split
    · rename_i h1
      rw [if_pos h1] at h
      exact tierFrom_more a f (k + 1) (by omega)
    · rfl
theorem tierN_four {a : Int} (h8 : 8 ≤ a) (h : tierN a < 19) : tierN (4 * a) = tierN a + 1 := by
  have h19 : tierFrom a 20 0 = tierFrom a 19 0 := by
    by_cases hlt : tierFrom a 19 0 < 19
    · exact tierFrom_more a 19 0 (by omega)
    · have hm : ∀ f k, tierFrom a f k ≤ tierFrom a (f + 1) k := by
        intro f
        induction f with
        | zero => intro k; unfold tierFrom; split <;> simp [tierFrom]
        | succ f ih => intro k; conv => lhs; rw [tierFrom]
                       conv => rhs; rw [tierFrom]
                       split
                       · exact ih (k + 1)
                       · exact Nat.le_refl _
      have := hm 19 0
      have e20 : tierFrom a (19 + 1) 0 = tierFrom a 20 0 := rfl
      unfold tierN at h
      omega
  have e : tierN (4 * a) = tierFrom (4 * a) 19 1 := by
    unfold tierN
    rw [tierFrom, if_pos (by simp [P4]; omega)]
  rw [e, tierFrom_four a 19 0]
  unfold tierN
  rw [h19]

set_option maxHeartbeats 4000000 in
theorem rises_walk (w : World) (a : Int) (wa : (Lit.int .i64 a).wf = true) (b : Int) (wb : (Lit.int .i64 b).wf = true) :
    Calls Try.prog 5 #[.int .i64 a, .int .i64 b] w fun e w' => e = .returned (.bool true) ∧ Below w.heap.size w w' := by
  obtain ⟨a1, a2⟩ := bounds_i64 wa
  obtain ⟨b1, b2⟩ := bounds_i64 wb
  clear wa wb
  have x1 := tierN_le a
  have y1 := tierN_le b
  have ho : (a ≤ b ∧ b ≤ a ∧ tierN a ≤ tierN b ∧ tierN b ≤ tierN a) ∨ (a < b ∧ tierN a ≤ tierN b) ∨ (b < a ∧ tierN b ≤ tierN a) := by
    rcases Int.lt_trichotomy a b with h | h | h
    · exact .inr (.inl ⟨h, tierN_mono (by omega)⟩)
    · exact .inl ⟨by omega, by omega, tierN_mono (by omega), tierN_mono (by omega)⟩
    · exact .inr (.inr ⟨h, tierN_mono (by omega)⟩)
  have hc : a < 8 ∨ (8 ≤ a ∧ 1099511627776 < a) ∨ (8 ≤ a ∧ a ≤ 1099511627776 ∧ 19 ≤ tierN a) ∨ (8 ≤ a ∧ a ≤ 1099511627776 ∧ tierN a < 19) := by omega
  have fin : ∀ (h4 : 8 ≤ a ∧ a ≤ 1099511627776 ∧ tierN a < 19 → (((tierN (4 * a) : Nat) : Int) == (tierN a : Int) + 1) = true), Calls Try.prog 5 #[.int .i64 a, .int .i64 b] w fun e w' => e = .returned (.bool true) ∧ Below w.heap.size w w' := by
    intro h4
    rcases ho with ⟨o1, o2, o3, o4⟩ | ⟨o1, o2⟩ | ⟨o1, o2⟩ <;> rcases hc with c1 | ⟨c1, c2⟩ | ⟨c1, c2, c3⟩ | ⟨c1, c2, c3⟩
    all_goals
      first
      | (have h5 := h4 ⟨c1, c2, c3⟩; clear h4)
      | clear h4
      go_enter Try.func5, Try.ntmps5
      go_wp2_with (first
        | (go_at_call 13; refine (tier_any _ _).mono ?_; rintro e w' ⟨rfl, rfl⟩)
        | (go_at_call 9; refine (awake_any _).mono ?_; rintro e w' ⟨rfl, hbA⟩))
      go_ret
      exact ⟨rfl, by assumption⟩
  refine fin fun ⟨h1, _, h2⟩ => ?_
  rw [tierN_four h1 h2]
  simp
end Go.Proofs.Ytnhagnjikinimaa
