/- The tier of a number: what tier.Tier and glossref18.Tier return, for every number. -/
import Derived.Test.YtnhagnjikinimaaRows
import Derived.WalkKit
import Derived.WalkLawsBesides
import Derived.WalkSpells
import Derived.BigQuiet
import Derived.Deep.QuietTactic
import Derived.Lib.Hide
namespace Go.Proofs.Ytnhagnjikinimaa
open Go.RowKit

theorem ret_int {k : IntKind} {a b : Int} (h : a = b) : Ending.returned (.int k a) = .returned (.int k b) := by rw [h]
def P4 (k : Nat) : Int := 4 ^ k
def tierFrom (n : Int) : Nat → Nat → Nat
  | 0, k => k
  | f + 1, k => if 32 * P4 k ≤ n then tierFrom n f (k + 1) else k
def tierN (n : Int) : Nat := tierFrom n 20 0
theorem tierFrom_le (n : Int) : ∀ f k, tierFrom n f k ≤ k + f
  | 0, k => by simp [tierFrom]
  | f + 1, k => by
    unfold tierFrom
    split
    · have := tierFrom_le n f (k + 1); omega
    · omega
theorem tierN_le (n : Int) : tierN n ≤ 20 := by have := tierFrom_le n 20 0; unfold tierN; omega

theorem pow4_le {k : Nat} (h : k ≤ 20) : (4 : Int) ^ k ≤ 1099511627776 := by
  have : (4 : Int) ^ k ≤ 4 ^ 20 := by
    have h2 : (4 : Nat) ^ k ≤ 4 ^ 20 := Nat.pow_le_pow_right (by omega) h
    have := Int.ofNat_le.2 h2
    simpa using this
  simpa using this
theorem pow4_pos (k : Nat) : (1 : Int) ≤ 4 ^ k := by
  have : 0 < (4 : Nat) ^ k := Nat.pow_pos (by omega)
  have h := Int.ofNat_lt.2 this
  simp at h
  omega

theorem P4_succ (k : Nat) : P4 (k + 1) = 4 * P4 k := by unfold P4; rw [Int.pow_succ]; omega
theorem P4_pos (k : Nat) : 1 ≤ P4 k := pow4_pos k
theorem P4_le {k : Nat} (h : k ≤ 20) : P4 k ≤ 1099511627776 := pow4_le h

theorem tier_step {n : Int} {k : Nat} (hk : k < 20) (h : 32 * P4 k ≤ n) : tierFrom n (20 - k) k = tierFrom n (20 - (k + 1)) (k + 1) := by
  obtain ⟨f, hf⟩ : ∃ f, 20 - k = f + 1 := ⟨20 - k - 1, by omega⟩
  have h2 : 20 - (k + 1) = f := by omega
  rw [hf, h2, tierFrom, if_pos h]
theorem tier_stop {n : Int} {k : Nat} (h : n < 32 * P4 k) : tierFrom n (20 - k) k = k := by
  cases e : 20 - k with
  | zero => rfl
  | succ f => rw [tierFrom, if_neg (by omega)]
theorem tier_end {n : Int} {k : Nat} (h : ¬ k < 20) (hk : k ≤ 20) : tierFrom n (20 - k) k = k := by
  obtain rfl : k = 20 := by omega
  rfl

set_option maxHeartbeats 400000 in
theorem tier_any (n : Int) (w : World) : Calls Try.prog 13 #[.int .i64 n] w fun e w' => e = .returned (.int .i64 (tierN n)) ∧ w = w' := by
  go_enter Try.func13, Try.ntmps13
  go_wp2
  go_loop [3, 4] (fun t m => ∃ k : Nat, k ≤ 20 ∧ t = .int .i64 k ∧ m = .int .i64 (32 * P4 k) ∧ Hid (tierN n = tierFrom n (20 - k) k)) (fun t _ => 20 - (intOf t).toNat)
  case atStart => exact ⟨0, by omega, rfl, rfl, rfl⟩
  case round =>
    obtain ⟨k, hk, rfl, rfl, hn⟩ := hrel
    have hp := P4_pos k
    have hq := P4_le hk
    by_cases h1 : 32 * P4 k ≤ n
    · by_cases h2 : k < 20
      · go_wp2
        go_round
        case rel => exact ⟨k + 1, by omega, by go_num, by rw [P4_succ]; go_num, hn.out.trans (tier_step h2 h1)⟩
        case measure => simp [intOf]; omega
      · go_wp2
        go_ret
        exact ⟨ret_int (by rw [hn.out, tier_end h2 hk]), rfl⟩
    · go_wp2
      go_ret
      exact ⟨ret_int (by rw [hn.out, tier_stop (by omega)]), rfl⟩
end Go.Proofs.Ytnhagnjikinimaa
