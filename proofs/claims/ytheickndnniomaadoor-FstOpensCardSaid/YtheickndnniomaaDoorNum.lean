/- Numbers as bytes (layer 1), in plain Lean: the program's way and the reference's come to one list. -/
import Derived.Test.YtheickndnniomaaDoorMore
import Derived.Lib.BitFns
namespace Go.Proofs.YtheickndnniomaaDoor
open Go.RowKit

/-- How many bytes a number needs. -/
def szN (x : Nat) : Nat := max 1 ((Lib.bitLen x + 7) / 8)
/-- k bytes of a number, the highest first. -/
def beZ : Nat → Nat → List Int
  | 0, _ => []
  | k + 1, x => ((x / 256 ^ k % 256 : Nat) : Int) :: beZ k x
theorem beZ_length (k x : Nat) : (beZ k x).length = k := by
  induction k with
  | zero => rfl
  | succ k ih => rw [beZ, List.length_cons, ih]
theorem beZ_snoc (k x : Nat) : beZ (k + 1) x = beZ k (x / 256) ++ [((x % 256 : Nat) : Int)] := by
  induction k with
  | zero => simp [beZ]
  | succ k ih =>
    rw [beZ, ih, beZ, List.cons_append, Nat.div_div_eq_div_mul, Nat.pow_succ, Nat.mul_comm 256]
theorem bitLen_le8' {x : Nat} (h : x < 256) : Lib.bitLen x ≤ 8 := Lib.bitLen_le8 ⟨x, h⟩
theorem szN_small {x : Nat} (h : x < 256) : szN x = 1 := by
  have := bitLen_le8' h
  unfold szN
  omega
theorem szN_big {x : Nat} (h : 256 ≤ x) (hx : x < 18446744073709551616) : szN x = szN (x / 256) + 1 := by
  have e := Lib.bitLen_shift8 x h hx
  have h1 : 1 ≤ Lib.bitLen (x / 256) := by
    have hx' : x / 256 < 18446744073709551616 := by omega
    rw [Lib.bitLen_half (x / 256) (by omega) (by omega)]
    omega
  unfold szN
  rw [e]
  omega
theorem szN_pos (x : Nat) : 1 ≤ szN x := by unfold szN; omega
/-- The reference's way. -/
def places (x : Nat) : List Int :=
  if x < 256 then [((x % 256 : Nat) : Int)] else places (x / 256) ++ [((x % 256 : Nat) : Int)]
theorem places_eq (x : Nat) : places x = if x < 256 then [((x % 256 : Nat) : Int)] else places (x / 256) ++ [((x % 256 : Nat) : Int)] := by
  rw [places]
theorem places_be : ∀ (k x : Nat), x < 18446744073709551616 → szN x = k → beZ k x = places x
  | 0, x, _, h => by have := szN_pos x; omega
  | 1, x, hx, h => by
    have h1 : x < 256 := by
      rcases Nat.lt_or_ge x 256 with h1 | h1
      · exact h1
      · have := szN_big h1 hx; have := szN_pos (x / 256); omega
    rw [places_eq, if_pos h1]
    simp [beZ]
  | k + 2, x, hx, h => by
    have h1 : 256 ≤ x := by
      rcases Nat.lt_or_ge x 256 with h1 | h1
      · have := szN_small h1; omega
      · exact h1
    have e := szN_big h1 hx
    rw [places_eq, if_neg (by omega), beZ_snoc, places_be (k + 1) (x / 256) (by omega) (by omega)]
theorem szN_le {x : Nat} (hx : x < 9223372036854775808) : szN x ≤ 8 := by
  have h : ∀ k x : Nat, x < 2 ^ k → k ≤ 64 → Lib.bitLen x ≤ k := by
    intro k
    induction k with
    | zero => intro x h _; obtain rfl : x = 0 := by omega
              decide
    | succ k ih =>
      intro x h hk
      by_cases h0 : x = 0
      · subst h0; exact Nat.le_trans (by decide : Lib.bitLen 0 ≤ 0) (Nat.zero_le _)
      · have hx64 : x < 2 ^ 64 := Nat.lt_of_lt_of_le h (Nat.pow_le_pow_right (by omega) hk)
        rw [Lib.bitLen_half x h0 hx64]
        have := ih (x / 2) (by rw [Nat.pow_succ] at h; omega) (by omega)
        omega
  have := h 63 x (by simpa using hx) (by omega)
  unfold szN
  omega
/-- The form of a number from 0 on. -/
def numZ (n : Nat) : List Int := if n ≤ 111 then [((128 + n : Nat) : Int)] else ((239 + szN (n - 112) : Nat) : Int) :: beZ (szN (n - 112)) (n - 112)
theorem beZ_byte (k x : Nat) : ∀ z ∈ beZ k x, 0 ≤ z ∧ z < 256 := by
  induction k with
  | zero => simp [beZ]
  | succ k ih =>
    intro z hz
    rcases List.mem_cons.1 hz with rfl | h
    · omega
    · exact ih z h
theorem numZ_byte {n : Nat} (hn : n < 9223372036854775808) : ∀ z ∈ numZ n, 0 ≤ z ∧ z < 256 := by
  intro z hz
  unfold numZ at hz
  split at hz
  · rw [List.mem_singleton] at hz; omega
  · rcases List.mem_cons.1 hz with rfl | h
    · have := szN_le (x := n - 112) (by omega); omega
    · exact beZ_byte _ _ z h
theorem numZ_length {n : Nat} (hn : n < 9223372036854775808) : 1 ≤ (numZ n).length ∧ (numZ n).length ≤ 9 := by
  unfold numZ
  split
  · simp
  · have := szN_le (x := n - 112) (by omega)
    rw [List.length_cons, beZ_length]
    omega
end Go.Proofs.YtheickndnniomaaDoor
