/- A digit of a long division: the guess of a quotient's digit and how it is lowered. -/
import Derived.Test.YtdiekkligpinkaaWt
namespace Go.Proofs.Ytdiekkligpinkaa

/-- The guess q of the digit of (u * B + d) / (y1 * B + y0), and what it leaves of the high part. -/
structure Guess (B u d y1 y0 q r : Nat) : Prop where
  sum : q * y1 + r = u
  up : (u * B + d) / (y1 * B + y0) ≤ q
  small : q ≤ B + 1

theorem div_lt {B u d y : Nat} (hu : u < y) (hd : d < B) : (u * B + d) / y < B := by
  rw [Nat.div_lt_iff_lt_mul (by omega)]
  have h1 : (u + 1) * B ≤ y * B := Nat.mul_le_mul_right _ hu
  rw [Nat.add_mul] at h1
  rw [Nat.mul_comm B y]
  omega
theorem guess_start {B u d y1 y0 : Nat} (hu : u < y1 * B + y0) (hd : d < B) (h1 : B ≤ 2 * y1) (h0 : y0 < B) : Guess B u d y1 y0 (u / y1) (u % y1) := by
  have hy1 : 0 < y1 := by omega
  refine ⟨by rw [Nat.mul_comm]; exact Nat.div_add_mod u y1, ?_, ?_⟩
  · rw [Nat.le_div_iff_mul_le hy1]
    have hq : (u * B + d) / (y1 * B + y0) * (y1 * B + y0) ≤ u * B + d := Nat.div_mul_le_self _ _
    generalize (u * B + d) / (y1 * B + y0) = Q at *
    have e : Q * (y1 * B + y0) = Q * y1 * B + Q * y0 := by rw [Nat.mul_add, Nat.mul_assoc]
    rw [e] at hq
    have h2 : Q * y1 * B < (u + 1) * B := by rw [Nat.add_mul]; omega
    have := Nat.lt_of_mul_lt_mul_right h2
    omega
  · have hlt : u / y1 < B + 2 := by
      rw [Nat.div_lt_iff_lt_mul hy1, Nat.add_mul]
      rw [Nat.mul_comm y1 B] at hu
      omega
    omega
theorem guess_stop {B u d y1 y0 q r : Nat} (hy : 0 < y1 * B + y0) (h : Guess B u d y1 y0 q r) (hc : q * y0 ≤ B * r + d) : q = (u * B + d) / (y1 * B + y0) := by
  refine Nat.le_antisymm ?_ h.up
  rw [Nat.le_div_iff_mul_le hy]
  have e : q * (y1 * B + y0) = q * y1 * B + q * y0 := by rw [Nat.mul_add, Nat.mul_assoc]
  have e2 : u * B = q * y1 * B + B * r := by rw [← h.sum, Nat.add_mul, Nat.mul_comm r B]
  rw [e, e2]
  omega
theorem guess_step {B u d y1 y0 q r : Nat} (hu : u < y1 * B + y0) (hd : d < B) (h : Guess B u d y1 y0 q r) (hc : B ≤ q ∨ B * r + d < q * y0) :
    Guess B u d y1 y0 (q - 1) (r + y1) ∧ 1 ≤ q ∧ q - 1 ≤ B := by
  have hlt := div_lt hu hd
  have hQ : (u * B + d) / (y1 * B + y0) < q := by
    rcases hc with hc | hc
    · omega
    · rw [Nat.div_lt_iff_lt_mul (by omega)]
      have e : q * (y1 * B + y0) = q * y1 * B + q * y0 := by rw [Nat.mul_add, Nat.mul_assoc]
      have e2 : u * B = q * y1 * B + B * r := by rw [← h.sum, Nat.add_mul, Nat.mul_comm r B]
      rw [e, e2]
      omega
  have hs := h.small
  have hu2 : (u * B + d) / (y1 * B + y0) ≤ q - 1 := Nat.le_sub_one_of_lt hQ
  have h1q : 1 ≤ q := Nat.lt_of_le_of_lt (Nat.zero_le _) hQ
  refine ⟨⟨?_, hu2, Nat.le_trans (Nat.sub_le q 1) hs⟩, h1q, by clear hQ hu2 hlt; omega⟩
  obtain ⟨p, rfl⟩ : ∃ p, q = p + 1 := ⟨q - 1, by omega⟩
  rw [Nat.add_sub_cancel, ← h.sum, Nat.add_mul]
  omega
theorem guess_break {B u d y1 y0 q r : Nat} (hy : 0 < y1 * B + y0) (h0 : y0 < B) (h : Guess B u d y1 y0 q r) (hq : q ≤ B) (hr : B ≤ r) : q = (u * B + d) / (y1 * B + y0) := by
  refine guess_stop hy h ?_
  have h1 : q * y0 ≤ B * y0 := Nat.mul_le_mul_right _ hq
  have h2 : B * y0 ≤ B * r := Nat.mul_le_mul_left _ (by omega)
  omega

/-- Two digits make the quotient. -/
theorem two_digits {B hi d1 d0 y : Nat} (hy : 0 < y) : ((hi * B + d1) * B + d0) / y = (hi * B + d1) / y * B + ((hi * B + d1) % y * B + d0) / y := by
  have e : (hi * B + d1) * B + d0 = (hi * B + d1) % y * B + d0 + (hi * B + d1) / y * B * y := by
    have := Nat.div_add_mod (hi * B + d1) y
    generalize (hi * B + d1) / y = q at *
    generalize (hi * B + d1) % y = r at *
    rw [← this]
    rw [Nat.add_mul]
    have : y * q * B = q * B * y := by ac_rfl
    omega
  rw [e, Nat.add_mul_div_right _ _ hy, Nat.add_comm]
end Go.Proofs.Ytdiekkligpinkaa
