/- Numbers as bytes, in plain Lean: which bytes are a number's form. -/
import Derived.Test.YtheickndnniomaaDoorRefnum
namespace Go.Proofs.YtheickndnniomaaDoor
open Go.RowKit

def digits (fl : Bool) (t : List UInt8) (k : Nat) : List Int := (List.range k).map fun i => ((flipN fl (byteN t (i + 1)) : Nat) : Int)
theorem beZ_acc (fl : Bool) (t : List UInt8) : ∀ k, beZ k (accN fl t k) = digits fl t k
  | 0 => rfl
  | k + 1 => by
    have hc := flipN_in fl (byteN_in t (k + 1))
    have h1 : (accN fl t k * 256 + flipN fl (byteN t (k + 1))) / 256 = accN fl t k := by omega
    have h2 : (accN fl t k * 256 + flipN fl (byteN t (k + 1))) % 256 = flipN fl (byteN t (k + 1)) := by omega
    rw [beZ_snoc, accN, h1, h2, beZ_acc fl t k]
    unfold digits
    rw [List.range_succ, List.map_append]
    rfl
theorem szN_le_of : ∀ (k x : Nat), 1 ≤ k → x < 256 ^ k → x < 18446744073709551616 → szN x ≤ k
  | 0, x, h, _, _ => by omega
  | k + 1, x, _, h, hx => by
    rcases Nat.lt_or_ge x 256 with h1 | h1
    · rw [szN_small h1]; omega
    · rw [szN_big h1 hx]
      rcases Nat.eq_zero_or_pos k with h0 | h0
      · subst h0
        simp at h
        omega
      · have := szN_le_of k (x / 256) h0 (by rw [Nat.pow_succ] at h; omega) (by omega)
        omega
theorem szN_ge_of : ∀ (k x : Nat), 256 ^ k ≤ x → x < 18446744073709551616 → k + 1 ≤ szN x
  | 0, x, _, _ => szN_pos x
  | k + 1, x, h, hx => by
    have h1 : 256 ≤ x := by
      have : 0 < 256 ^ k := Nat.pow_pos (by omega)
      rw [Nat.pow_succ] at h
      omega
    rw [szN_big h1 hx]
    have := szN_ge_of k (x / 256) (by rw [Nat.pow_succ] at h; omega) (by omega)
    omega
/-- The first of the digits weighs most. -/
theorem acc_head (fl : Bool) (t : List UInt8) : ∀ k, (flipN fl (byteN t 1) = 0 → accN fl t (k + 1) < 256 ^ k) ∧ (flipN fl (byteN t 1) ≠ 0 → 256 ^ k ≤ accN fl t (k + 1))
  | 0 => by
    simp only [accN, Nat.zero_mul, Nat.zero_add, Nat.pow_zero]
    omega
  | k + 1 => by
    obtain ⟨h1, h2⟩ := acc_head fl t k
    have hc := flipN_in fl (byteN_in t (k + 2))
    have e : accN fl t (k + 2) = accN fl t (k + 1) * 256 + flipN fl (byteN t (k + 2)) := rfl
    rw [e, Nat.pow_succ]
    generalize 256 ^ k = M at *
    generalize accN fl t (k + 1) = X at *
    exact ⟨fun h => by have := h1 h; omega, fun h => by have := h2 h; omega⟩
/-- How many bytes the number needs: all of them, but where the first is nought. -/
theorem szN_acc (fl : Bool) (t : List UInt8) {k : Nat} (h1 : 1 ≤ k) (h8 : k ≤ 8) : (szN (accN fl t k) = k ↔ ¬ (1 < k ∧ flipN fl (byteN t 1) = 0)) ∧ szN (accN fl t k) ≤ k := by
  obtain ⟨j, rfl⟩ : ∃ j, k = j + 1 := ⟨k - 1, by omega⟩
  have ha := accN_in fl t (j + 1)
  have hx : accN fl t (j + 1) < 18446744073709551616 := Nat.lt_of_lt_of_le ha (Nat.le_trans (Nat.pow_le_pow_right (by omega) h8) (by decide))
  have hle := szN_le_of (j + 1) _ (by omega) ha hx
  refine ⟨⟨fun h => ?_, fun h => ?_⟩, hle⟩
  · rintro ⟨h2, h3⟩
    have := szN_le_of j _ (by omega) ((acc_head fl t j).1 h3) hx
    omega
  · by_cases h3 : flipN fl (byteN t 1) = 0
    · have hj : j = 0 := by
        rcases Nat.eq_zero_or_pos j with h0 | h0
        · exact h0
        · exact absurd ⟨by omega, h3⟩ h
      subst hj
      have := szN_pos (accN fl t (0 + 1))
      omega
    · have := szN_ge_of j _ ((acc_head fl t j).2 h3) hx
      omega
end Go.Proofs.YtheickndnniomaaDoor
