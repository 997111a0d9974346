/- The plain mathematics of the logarithm: its steps, how it rises, its bounds. -/
import Derived.Test.YtdiekkligpinkaaRows
namespace Go.Proofs.Ytdiekkligpinkaa

/-- One bit of the fraction: the mantissa m (from 2^31 on, below 2^32) and the bits so far. -/
def lstep (s : Nat × Nat) : Nat × Nat :=
  if s.1 * s.1 / 2147483648 < 4294967296 then (s.1 * s.1 / 2147483648, 2 * s.2) else (s.1 * s.1 / 2147483648 / 2, 2 * s.2 + 1)
def lsteps : Nat → Nat × Nat → Nat × Nat
  | 0, s => s
  | k + 1, s => lstep (lsteps k s)
def mant (x w : Nat) : Nat := x * 2 ^ (63 - w) / 4294967296
def whole (x : Nat) : Nat := Nat.log2 x
def logN (x : Nat) : Nat := (lsteps 16 (mant x (whole x), whole x)).2

def Norm (s : Nat × Nat) : Prop := 2147483648 ≤ s.1 ∧ s.1 < 4294967296
theorem norm_step {s : Nat × Nat} (h : Norm s) : Norm (lstep s) := by
  obtain ⟨h1, h2⟩ := h
  have a1 : 2147483648 * 2147483648 ≤ s.1 * s.1 := Nat.mul_le_mul h1 h1
  have a2 : s.1 * s.1 ≤ 4294967295 * 4294967295 := Nat.mul_le_mul (by omega) (by omega)
  unfold lstep
  split
  · exact ⟨by show _ ≤ _; omega, by show _ < _; omega⟩
  · exact ⟨by show _ ≤ _; omega, by show _ < _; omega⟩
theorem norm_steps {s : Nat × Nat} (h : Norm s) : ∀ k, Norm (lsteps k s)
  | 0 => h
  | k + 1 => norm_step (norm_steps h k)
theorem mant_norm {x : Nat} (h0 : 1 ≤ x) (h63 : x < 2 ^ 63) : Norm (mant x (whole x), whole x) := by
  have h1 : 2 ^ whole x ≤ x := Nat.log2_self_le (by omega)
  have h2 : x < 2 ^ (whole x + 1) := Nat.lt_log2_self
  have hw : whole x ≤ 62 := by
    unfold whole
    have := (Nat.log2_lt (by omega : x ≠ 0)).2 h63
    omega
  have e1 : 2 ^ whole x * 2 ^ (63 - whole x) = 2 ^ 63 := by rw [← Nat.pow_add]; congr 1; omega
  have e2 : 2 ^ (whole x + 1) * 2 ^ (63 - whole x) = 2 ^ 64 := by rw [← Nat.pow_add]; congr 1; omega
  have b1 : 2 ^ 63 ≤ x * 2 ^ (63 - whole x) := by rw [← e1]; exact Nat.mul_le_mul_right _ h1
  have b2 : x * 2 ^ (63 - whole x) < 2 ^ 64 := by rw [← e2]; exact Nat.mul_lt_mul_of_pos_right h2 (Nat.two_pow_pos _)
  unfold mant
  generalize x * 2 ^ (63 - whole x) = y at *
  exact ⟨by show _ ≤ _; omega, by show _ < _; omega⟩

/-! ### Twice a number is a whole more -/
theorem whole_two {x : Nat} (h0 : 1 ≤ x) : whole (2 * x) = whole x + 1 := by
  unfold whole
  rw [Nat.log2_two_mul (by omega)]
theorem lsteps_add (m w d : Nat) : ∀ k, lsteps k (m, w + d) = ((lsteps k (m, w)).1, (lsteps k (m, w)).2 + d * 2 ^ k)
  | 0 => by simp [lsteps]
  | k + 1 => by
    have e : d * 2 ^ (k + 1) = 2 * (d * 2 ^ k) := by rw [Nat.pow_succ, ← Nat.mul_assoc, Nat.mul_comm]
    rw [lsteps, lsteps_add m w d k, lsteps, e]
    generalize d * 2 ^ k = q
    generalize lsteps k (m, w) = s
    unfold lstep
    simp only
    split
    · exact Prod.ext rfl (by show _ = _; omega)
    · exact Prod.ext rfl (by show _ = _; omega)
theorem mant_two {x : Nat} (h : whole x ≤ 62) : mant (2 * x) (whole x + 1) = mant x (whole x) := by
  unfold mant
  have e : 63 - whole x = (63 - (whole x + 1)) + 1 := by omega
  rw [e, Nat.pow_succ]
  congr 1
  rw [Nat.mul_comm 2 x, Nat.mul_assoc, Nat.mul_comm 2]
theorem logN_two {x : Nat} (h0 : 1 ≤ x) (h : whole x ≤ 62) : logN (2 * x) = logN x + 65536 := by
  unfold logN
  rw [whole_two h0, mant_two h, lsteps_add]

/-! ### A greater number has no lesser logarithm -/
def Le (s t : Nat × Nat) : Prop := s.2 < t.2 ∨ (s.2 = t.2 ∧ s.1 ≤ t.1)
theorem le_step {s t : Nat × Nat} (h : Le s t) : Le (lstep s) (lstep t) := by
  have b : ∀ s, 2 * s.2 ≤ (lstep s).2 ∧ (lstep s).2 ≤ 2 * s.2 + 1 := fun s => by
    unfold lstep; split <;> exact ⟨by show _ ≤ _; omega, by show _ ≤ _; omega⟩
  have bs := b s
  have bt := b t
  rcases h with h | ⟨h1, h2⟩
  · exact .inl (by omega)
  · have hm : s.1 * s.1 / 2147483648 ≤ t.1 * t.1 / 2147483648 := Nat.div_le_div_right (Nat.mul_le_mul h2 h2)
    unfold lstep
    split
    · split
      · exact .inr ⟨by show _ = _; omega, hm⟩
      · exact .inl (by show _ < _; omega)
    · split
      · omega
      · exact .inr ⟨by show _ = _; omega, by show _ ≤ _; omega⟩
theorem le_steps {s t : Nat × Nat} (h : Le s t) : ∀ k, Le (lsteps k s) (lsteps k t)
  | 0 => h
  | k + 1 => le_step (le_steps h k)
theorem logN_mono {a b : Nat} (h0 : 1 ≤ a) (h : a ≤ b) : logN a ≤ logN b := by
  have hw : whole a ≤ whole b := by
    unfold whole
    rw [Nat.le_log2 (by omega)]
    exact Nat.le_trans (Nat.log2_self_le (by omega)) h
  have hl : Le (mant a (whole a), whole a) (mant b (whole b), whole b) := by
    rcases Nat.lt_or_ge (whole a) (whole b) with h1 | h1
    · exact .inl h1
    · have e : whole a = whole b := by omega
      refine .inr ⟨e, ?_⟩
      show mant a _ ≤ mant b _
      unfold mant
      rw [e]
      exact Nat.div_le_div_right (Nat.mul_le_mul_right _ h)
  rcases le_steps hl 16 with h2 | ⟨h2, _⟩
  · exact Nat.le_of_lt h2
  · exact Nat.le_of_eq h2
theorem lsteps_lt (m w : Nat) : ∀ k, (lsteps k (m, w)).2 < (w + 1) * 2 ^ k
  | 0 => by simp [lsteps]
  | k + 1 => by
    have ih := lsteps_lt m w k
    have b : (lstep (lsteps k (m, w))).2 ≤ 2 * (lsteps k (m, w)).2 + 1 := by
      unfold lstep; split <;> (show _ ≤ _; omega)
    rw [lsteps, Nat.pow_succ, ← Nat.mul_assoc]
    omega
theorem lsteps_ge (m w : Nat) : ∀ k, w * 2 ^ k ≤ (lsteps k (m, w)).2
  | 0 => by simp [lsteps]
  | k + 1 => by
    have ih := lsteps_ge m w k
    have b : 2 * (lsteps k (m, w)).2 ≤ (lstep (lsteps k (m, w))).2 := by
      unfold lstep; split <;> (show _ ≤ _; omega)
    rw [lsteps, Nat.pow_succ, ← Nat.mul_assoc]
    omega
end Go.Proofs.Ytdiekkligpinkaa
