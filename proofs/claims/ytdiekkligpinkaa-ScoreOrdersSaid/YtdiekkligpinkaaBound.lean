/- How near the logarithm of a product is to the sum of the logarithms. -/
import Derived.Test.YtdiekkligpinkaaMath
namespace Go.Proofs.Ytdiekkligpinkaa

def cc : Nat → Nat
  | 0 => 1
  | k + 1 => 2 * cc k + 1

theorem seq_lower (N : Nat) (hN : 0 < N) (m o : Nat → Nat) (x : Nat) (h0 : 2 ^ o 0 * m 0 ≤ x * N)
    (hs : ∀ k, ∃ h, o (k + 1) = 2 * o k + h ∧ m (k + 1) * N * 2 ^ h ≤ m k * m k) : ∀ k, 2 ^ o k * m k ≤ x ^ 2 ^ k * N
  | 0 => by simpa using h0
  | k + 1 => by
    have ih := seq_lower N hN m o x h0 hs k
    obtain ⟨h, e, hm⟩ := hs k
    have sq := Nat.mul_le_mul ih ih
    have e2 : x ^ 2 ^ (k + 1) = x ^ 2 ^ k * x ^ 2 ^ k := by rw [Nat.pow_succ, Nat.pow_mul, Nat.pow_two]
    have e3 : 2 ^ o (k + 1) = 2 ^ o k * 2 ^ o k * 2 ^ h := by rw [e, Nat.pow_add, Nat.two_mul, Nat.pow_add]
    rw [e2, e3]
    generalize x ^ 2 ^ k = X at *
    generalize 2 ^ o k = A at *
    generalize 2 ^ h = B at *
    refine Nat.le_of_mul_le_mul_right (c := N) ?_ hN
    have a1 : A * A * B * m (k + 1) * N = A * A * (m (k + 1) * N * B) := by ac_rfl
    have a2 : A * A * (m k * m k) = A * m k * (A * m k) := by ac_rfl
    have a3 : X * X * N * N = X * N * (X * N) := by ac_rfl
    rw [a1, a3]
    exact Nat.le_trans (Nat.mul_le_mul_left _ hm) (by rw [a2]; exact sq)

theorem seq_upper (N : Nat) (m o : Nat → Nat) (x : Nat) (hn : ∀ k, N ≤ m k) (h0 : x * N ≤ 2 ^ o 0 * (m 0 + 1))
    (hs : ∀ k, ∃ h, o (k + 1) = 2 * o k + h ∧ m k * m k ≤ (m (k + 1) + 1) * N * 2 ^ h) : ∀ k, x ^ 2 ^ k * N * N ^ cc k ≤ 2 ^ o k * m k * (N + 1) ^ cc k
  | 0 => by
    have h1 := hn 0
    have h2 : (m 0 + 1) * N ≤ m 0 * (N + 1) := by rw [Nat.add_mul, Nat.mul_add]; omega
    simp only [cc, Nat.pow_one, Nat.pow_zero]
    have := Nat.mul_le_mul_right N h0
    refine Nat.le_trans this ?_
    rw [Nat.mul_assoc, Nat.mul_assoc]
    exact Nat.mul_le_mul_left _ h2
  | k + 1 => by
    have ih := seq_upper N m o x hn h0 hs k
    obtain ⟨h, e, hm⟩ := hs k
    have sq := Nat.mul_le_mul ih ih
    have h1 := hn (k + 1)
    have h2 : (m (k + 1) + 1) * N ≤ m (k + 1) * (N + 1) := by rw [Nat.add_mul, Nat.mul_add]; omega
    have e2 : x ^ 2 ^ (k + 1) = x ^ 2 ^ k * x ^ 2 ^ k := by rw [Nat.pow_succ, Nat.pow_mul, Nat.pow_two]
    have e3 : 2 ^ o (k + 1) = 2 ^ o k * 2 ^ o k * 2 ^ h := by rw [e, Nat.pow_add, Nat.two_mul, Nat.pow_add]
    have e4 : ∀ z : Nat, z ^ cc (k + 1) = z ^ cc k * z ^ cc k * z := fun z => by rw [cc, Nat.pow_succ, Nat.two_mul, Nat.pow_add]
    rw [e2, e3, e4, e4]
    generalize x ^ 2 ^ k = X at *
    generalize 2 ^ o k = A at *
    generalize 2 ^ h = B at *
    generalize N ^ cc k = C at *
    generalize (N + 1) ^ cc k = D at *
    have a1 : X * X * N * (C * C * N) = X * N * C * (X * N * C) := by ac_rfl
    have a2 : A * m k * D * (A * m k * D) = A * A * D * D * (m k * m k) := by ac_rfl
    have a3 : A * A * B * m (k + 1) * (D * D * (N + 1)) = A * A * D * D * (m (k + 1) * (N + 1) * B) := by ac_rfl
    rw [a1, a3]
    refine Nat.le_trans sq ?_
    rw [a2]
    exact Nat.mul_le_mul_left _ (Nat.le_trans hm (Nat.mul_le_mul_right _ h2))

theorem near_one (N : Nat) : ∀ c, 2 * c ≤ N → (N + 1) ^ c * N ≤ N ^ c * (N + 2 * c)
  | 0, _ => by simp
  | c + 1, h => by
    have ih := near_one N c (by omega)
    rw [Nat.pow_succ, Nat.pow_succ]
    have a1 : (N + 1) ^ c * (N + 1) * N = (N + 1) ^ c * N * (N + 1) := by ac_rfl
    rw [a1]
    refine Nat.le_trans (Nat.mul_le_mul_right _ ih) ?_
    rw [Nat.mul_assoc, Nat.mul_assoc]
    refine Nat.mul_le_mul_left _ ?_
    have : (N + 2 * c) * (N + 1) = N * N + N + 2 * c * N + 2 * c := by rw [Nat.add_mul, Nat.mul_add, Nat.mul_add]; omega
    have e2 : N * (N + 2 * (c + 1)) = N * N + 2 * c * N + 2 * N := by rw [Nat.mul_add, Nat.mul_add, Nat.mul_add, Nat.mul_comm N (2 * c)]; omega
    omega
theorem near_two {N c : Nat} (hN : 0 < N) (h : 2 * c ≤ N) : (N + 1) ^ c ≤ 2 * N ^ c := by
  refine Nat.le_of_mul_le_mul_right (c := N) ?_ hN
  refine Nat.le_trans (near_one N c h) ?_
  have : 2 * N ^ c * N = N ^ c * (2 * N) := by ac_rfl
  rw [this]
  exact Nat.mul_le_mul_left _ (by omega)

def EE (k : Nat) : Nat := 2 ^ k
theorem seq_bounds (N : Nat) (hN : 0 < N) (m o : Nat → Nat) (x : Nat) (hn : ∀ k, N ≤ m k ∧ m k < 2 * N) (h0l : 2 ^ o 0 * m 0 ≤ x * N) (h0u : x * N ≤ 2 ^ o 0 * (m 0 + 1))
    (hs : ∀ k, ∃ h, o (k + 1) = 2 * o k + h ∧ m (k + 1) * N * 2 ^ h ≤ m k * m k ∧ m k * m k ≤ (m (k + 1) + 1) * N * 2 ^ h) (k : Nat) (hc : 2 * cc k ≤ N) :
    2 ^ o k ≤ x ^ EE k ∧ x ^ EE k < 2 ^ (o k + 2) := by
  unfold EE
  have l := seq_lower N hN m o x h0l (fun k => let ⟨h, a, b, _⟩ := hs k; ⟨h, a, b⟩) k
  have u := seq_upper N m o x (fun k => (hn k).1) h0u (fun k => let ⟨h, a, _, b⟩ := hs k; ⟨h, a, b⟩) k
  obtain ⟨n1, n2⟩ := hn k
  constructor
  · refine Nat.le_of_mul_le_mul_right (c := N) (Nat.le_trans (Nat.mul_le_mul_left _ n1) l) hN
  · have h2 := near_two hN hc
    have hp : 0 < N ^ cc k := Nat.pow_pos hN
    have hA : 0 < 2 ^ o k := Nat.two_pow_pos _
    rw [Nat.pow_add]
    generalize x ^ 2 ^ k = X at *
    generalize 2 ^ o k = A at *
    generalize N ^ cc k = C at *
    generalize (N + 1) ^ cc k = D at *
    have b1 : A * m k * D ≤ A * m k * (2 * C) := Nat.mul_le_mul_left _ h2
    have b2 : A * m k * (2 * C) < A * (2 * N) * (2 * C) := Nat.mul_lt_mul_of_pos_right (Nat.mul_lt_mul_of_pos_left n2 hA) (by omega)
    have b3 : A * (2 * N) * (2 * C) = A * 2 ^ 2 * (N * C) := by
      have : A * 2 ^ 2 * (N * C) = A * (2 * 2) * (N * C) := rfl
      rw [this]; ac_rfl
    have b4 : X * N * C = X * (N * C) := by ac_rfl
    have b5 : X * (N * C) < A * 2 ^ 2 * (N * C) := by rw [← b4, ← b3]; omega
    exact Nat.lt_of_mul_lt_mul_right b5

theorem step_facts (s : Nat × Nat) : ∃ h, (lstep s).2 = 2 * s.2 + h ∧ (lstep s).1 * 2147483648 * 2 ^ h ≤ s.1 * s.1 ∧ s.1 * s.1 ≤ ((lstep s).1 + 1) * 2147483648 * 2 ^ h := by
  unfold lstep
  generalize s.1 * s.1 = y
  split
  · exact ⟨0, rfl, by show y / 2147483648 * 2147483648 * 1 ≤ y; omega, by show y ≤ (y / 2147483648 + 1) * 2147483648 * 1; omega⟩
  · exact ⟨1, rfl, by show y / 2147483648 / 2 * 2147483648 * 2 ≤ y; omega, by show y ≤ (y / 2147483648 / 2 + 1) * 2147483648 * 2; omega⟩
theorem mant_facts {x : Nat} (hw : whole x ≤ 62) : 2 ^ whole x * mant x (whole x) ≤ x * 2147483648 ∧ x * 2147483648 ≤ 2 ^ whole x * (mant x (whole x) + 1) := by
  have e : x * 2 ^ (63 - whole x) * 2 ^ whole x = x * 2147483648 * 4294967296 := by
    rw [Nat.mul_assoc, ← Nat.pow_add, show 63 - whole x + whole x = 63 by omega, Nat.mul_assoc]
  unfold mant
  generalize x * 2 ^ (63 - whole x) = y at *
  generalize 2 ^ whole x = A at *
  have l : y / 4294967296 * 4294967296 ≤ y := Nat.div_mul_le_self _ _
  have u : y ≤ (y / 4294967296 + 1) * 4294967296 := by omega
  generalize y / 4294967296 = q at *
  have l2 := Nat.mul_le_mul_right A l
  have u2 := Nat.mul_le_mul_right A u
  rw [e] at l2 u2
  have f1 : q * 4294967296 * A = A * q * 4294967296 := by ac_rfl
  have f2 : (q + 1) * 4294967296 * A = A * (q + 1) * 4294967296 := by ac_rfl
  rw [f1] at l2
  rw [f2] at u2
  exact ⟨Nat.le_of_mul_le_mul_right l2 (by omega), Nat.le_of_mul_le_mul_right u2 (by omega)⟩
theorem logN_bounds {x : Nat} (h0 : 1 ≤ x) (h : x < 2 ^ 63) : 2 ^ logN x ≤ x ^ EE 16 ∧ x ^ EE 16 < 2 ^ (logN x + 2) := by
  have hw : whole x ≤ 62 := by
    unfold whole
    have := (Nat.log2_lt (by omega : x ≠ 0)).2 h
    omega
  obtain ⟨f1, f2⟩ := mant_facts hw
  exact seq_bounds 2147483648 (by omega) (fun k => (lsteps k (mant x (whole x), whole x)).1) (fun k => (lsteps k (mant x (whole x), whole x)).2) x
    (fun k => by have := norm_steps (mant_norm h0 h) k; exact ⟨this.1, by have := this.2; omega⟩) f1 f2 (fun k => step_facts _) 16 (by decide)
theorem logN_product {a b : Nat} (ha : 1 ≤ a) (hb : 1 ≤ b) (h : a * b < 2 ^ 63) : logN (a * b) ≤ logN a + logN b + 3 ∧ logN a + logN b ≤ logN (a * b) + 1 := by
  have hab : 1 ≤ a * b := Nat.mul_pos ha hb
  have ha63 : a < 2 ^ 63 := Nat.lt_of_le_of_lt (Nat.le_mul_of_pos_right a hb) h
  have hb63 : b < 2 ^ 63 := Nat.lt_of_le_of_lt (Nat.le_mul_of_pos_left b ha) h
  obtain ⟨a1, a2⟩ := logN_bounds ha ha63
  obtain ⟨b1, b2⟩ := logN_bounds hb hb63
  obtain ⟨p1, p2⟩ := logN_bounds hab h
  rw [Nat.mul_pow] at p1 p2
  generalize a ^ EE 16 = X at *
  generalize b ^ EE 16 = Y at *
  generalize logN (a * b) = p at *
  generalize logN a = x at *
  generalize logN b = y at *
  constructor
  · have h1 : 2 ^ p < 2 ^ (x + 2 + (y + 2)) := by
      rw [Nat.pow_add 2 (x + 2)]
      refine Nat.lt_of_le_of_lt p1 ?_
      exact Nat.mul_lt_mul_of_lt_of_le a2 (Nat.le_of_lt b2) (Nat.two_pow_pos _)
    have := (Nat.pow_lt_pow_iff_right (by omega : 1 < 2)).1 h1
    omega
  · have h1 : 2 ^ (x + y) < 2 ^ (p + 2) := by
      rw [Nat.pow_add]
      exact Nat.lt_of_le_of_lt (Nat.mul_le_mul a1 b1) p2
    have := (Nat.pow_lt_pow_iff_right (by omega : 1 < 2)).1 h1
    omega
end Go.Proofs.Ytdiekkligpinkaa
