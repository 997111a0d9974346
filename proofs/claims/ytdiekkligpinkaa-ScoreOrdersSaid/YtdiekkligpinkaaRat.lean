/- The ratio, as the document reckons it. -/
import Derived.Test.YtdiekkligpinkaaAw
namespace Go.Proofs.Ytdiekkligpinkaa
open Go.RowKit

/-- quotient and rest of the first bits of a (all but the last k) times b by c -/
def RatAt (a b c k q r : Nat) : Prop := q = a / 2 ^ k * b / c ∧ r = a / 2 ^ k * b % c
theorem rat_start {a b c : Nat} (h : a < 2199023255552) : RatAt a b c 41 0 0 := by
  unfold RatAt
  rw [show a / 2 ^ 41 = 0 by omega, Nat.zero_mul, Nat.zero_div, Nat.zero_mod]
  exact ⟨rfl, rfl⟩
theorem rat_end {a b c q r : Nat} (h : RatAt a b c 0 q r) : q = a * b / c := by
  have := h.1
  rw [Nat.pow_zero, Nat.div_one] at this
  exact this
theorem half_pow (a j : Nat) : a / 2 ^ j = 2 * (a / 2 ^ (j + 1)) + a / 2 ^ j % 2 := by
  rw [Nat.pow_succ, ← Nat.div_div_eq_div_mul]
  omega
theorem rat_no {a b c j q r : Nat} (hc : 0 < c) (h : RatAt a b c (j + 1) q r) (hb : a / 2 ^ j % 2 = 0) : RatAt a b c j (2 * q + 2 * r / c) (2 * r % c) := by
  obtain ⟨h1, h2⟩ := h
  have e := half_pow a j
  rw [hb, Nat.add_zero] at e
  unfold RatAt
  rw [e, Nat.mul_assoc]
  generalize a / 2 ^ (j + 1) * b = z at *
  have hz : 2 * z = 2 * r + 2 * q * c := by
    have := Nat.div_add_mod z c
    rw [← h1, ← h2] at this
    rw [Nat.mul_assoc, Nat.mul_comm q c]
    omega
  rw [hz, Nat.add_mul_div_right _ _ hc, Nat.add_mul_mod_self_right]
  exact ⟨Nat.add_comm _ _, rfl⟩
theorem rat_yes {a b c j q r : Nat} (hc : 0 < c) (h : RatAt a b c (j + 1) q r) (hb : a / 2 ^ j % 2 = 1) : RatAt a b c j (2 * q + b / c + (2 * r + b % c) / c) ((2 * r + b % c) % c) := by
  obtain ⟨h1, h2⟩ := h
  have e := half_pow a j
  rw [hb] at e
  unfold RatAt
  rw [e, Nat.add_mul, Nat.mul_assoc, Nat.one_mul]
  generalize a / 2 ^ (j + 1) * b = z at *
  have hz : 2 * z + b = (2 * r + b % c) + (2 * q + b / c) * c := by
    have := Nat.div_add_mod z c
    have hb := Nat.div_add_mod b c
    rw [← h1, ← h2] at this
    rw [Nat.add_mul, Nat.mul_assoc, Nat.mul_comm q c, Nat.mul_comm (b / c) c]
    omega
  rw [hz, Nat.add_mul_div_right _ _ hc, Nat.add_mul_mod_self_right]
  exact ⟨Nat.add_comm _ _, rfl⟩
theorem rat_bound {a b c k q r : Nat} (hc : 0 < c) (h : RatAt a b c k q r) : q ≤ a * b / c ∧ r < c := by
  obtain ⟨rfl, rfl⟩ := h
  exact ⟨Nat.div_le_div_right (Nat.mul_le_mul_right _ (Nat.div_le_self _ _)), Nat.mod_lt _ hc⟩
theorem shift_cast (a j : Nat) : ((a : Int) / 2 ^ j).tmod 2 = ((a / 2 ^ j % 2 : Nat) : Int) := by
  have h : (a : Int) / 2 ^ j = ((a / 2 ^ j : Nat) : Int) := by
    rw [Int.natCast_ediv, Int.natCast_pow]
    rfl
  rw [h, Int.tmod_eq_emod_of_nonneg (Int.natCast_nonneg _)]
  rfl

set_option maxRecDepth 100000 in
set_option maxHeartbeats 2000000 in
theorem ratio_any (a b c : Nat) (ha : a < 2199023255552) (hc : 0 < c) (hc2 : c ≤ 1152921504606846976) (hb : b ≤ 1152921504606846976) (hq : a * b / c ≤ 1152921504606846976) (w : World) :
    Calls Try.prog 19 #[.int .i64 (a : Int), .int .i64 (b : Int), .int .i64 (c : Int)] w fun e w' => e = .returned (.int .i64 (a * b / c : Nat)) ∧ w = w' := by
  have hst := Lib.hid (rat_start (b := b) (c := c) ha)
  obtain ⟨A, hA⟩ : ∃ x : Int, x = (a : Int) := ⟨_, rfl⟩
  obtain ⟨B, hB⟩ : ∃ x : Int, x = (b : Int) := ⟨_, rfl⟩
  obtain ⟨C, hC⟩ : ∃ x : Int, x = (c : Int) := ⟨_, rfl⟩
  rw [← hA, ← hB, ← hC]
  have A0 : 0 ≤ A := by omega
  have A1 : A < 2199023255552 := by omega
  have B0 : 0 ≤ B := by omega
  have B1 : B ≤ 1152921504606846976 := by omega
  have C0 : 1 ≤ C := by omega
  have C1 : C ≤ 1152921504606846976 := by omega
  have HA := Lib.hid hA
  have HB := Lib.hid hB
  have HC := Lib.hid hC
  have Hc := Lib.hid hc
  have HQ := Lib.hid hq
  clear hA hB hC ha hc hc2 hb hq
  go_enter Try.func19, Try.ntmps19
  go_wp2
  go_loop [7, 8, 9] (fun u v x => ∃ (k Q R : Nat) (q r i : Int), u = .int .i64 q ∧ v = .int .i64 r ∧ x = .int .i64 i ∧ Hid (i = (k : Int) - 1) ∧ -1 ≤ i ∧ i ≤ 40 ∧ Hid (q = Q) ∧ Hid (r = R) ∧ Hid (RatAt a b c k Q R)) (fun _ _ x => (intOf x + 1).toNat)
  case atStart => exact ⟨41, 0, 0, 0, 0, 40, rfl, rfl, rfl, by show _ = _; omega, by omega, by omega, by show _ = _; omega, by show _ = _; omega, hst⟩
  case round =>
    try (rename w = w => hww; clear hww)
    obtain ⟨k, Q, R, q, r, i, rfl, rfl, rfl, hi, i0, i1, hQ, hR, hL⟩ := hrel
    by_cases hge : 0 ≤ i
    · obtain ⟨j, rfl⟩ : ∃ j, k = j + 1 := ⟨k - 1, by have := hi.out; omega⟩
      have bd := Lib.hid (rat_bound Hc.out hL.out)
      have q0 : 0 ≤ q := by have := hQ.out; omega
      have r0 : 0 ≤ r := by have := hR.out; omega
      have r1 : r < C := by have := hR.out; have := bd.out; have := HC.out; omega
      have hj : i.toNat = j := by have := hi.out; omega
      have hsh : (A / 2 ^ i.toNat).tmod 2 = ((a / 2 ^ j % 2 : Nat) : Int) := by
        rw [hj, HA.out, shift_cast]
      have hX : Hid (B / C = ((b / c : Nat) : Int)) := by show _ = _; rw [HB.out, HC.out, Int.natCast_ediv]
      have hY : Hid (B % C = ((b % c : Nat) : Int)) := by show _ = _; rw [HB.out, HC.out, Int.natCast_emod]
      clear hj
      by_cases hbit : a / 2 ^ j % 2 = 1
      · have hn := Lib.hid (rat_yes Hc.out hL.out hbit)
        have bn := Lib.hid (rat_bound Hc.out hn.out)
        have hT : ((A / 2 ^ i.toNat).tmod 2 == 1) = true := by rw [hsh, hbit]; rfl
        have hZ : Hid ((2 * r + B % C) / C = (((2 * R + b % c) / c : Nat) : Int)) := by
          show _ = _
          rw [hR.out, hY.out, HC.out, Int.natCast_ediv]
          rfl
        have hV : Hid ((2 * r + B % C) % C = (((2 * R + b % c) % c : Nat) : Int)) := by
          show _ = _
          rw [hR.out, hY.out, HC.out, Int.natCast_emod]
          rfl
        have x0 : 0 ≤ B / C ∧ 0 ≤ (2 * r + B % C) / C ∧ 2 * q + B / C + (2 * r + B % C) / C ≤ 1152921504606846976 := by
          rw [hX.out, hZ.out, hQ.out]
          have h1 := bn.out.1
          have h2 := HQ.out
          generalize b / c = x at *
          generalize (2 * R + b % c) / c = z at *
          generalize a * b / c = s at *
          omega
        obtain ⟨x0, x1, x2⟩ := x0
        have y0 : 0 ≤ B % C ∧ B % C < C := by
          rw [hY.out, HC.out]
          have := Nat.mod_lt b Hc.out
          generalize b % c = x at *
          omega
        obtain ⟨y0, y1⟩ := y0
        have q1 : q ≤ 576460752303423488 := by omega
        have q2 : 2 * q + B / C ≤ 1152921504606846976 := by omega
        clear hsh hbit
        go_wp2
        go_round
        case rel => exact ⟨j, _, _, _, _, _, rfl, rfl, rfl, by show _ = _; have := hi.out; omega, by omega, by omega, by show _ = _; rw [hZ.out, hX.out, hQ.out]; rfl, by show _ = _; rw [hV.out], hn.out⟩
        case measure => simp [intOf]; omega
      · have hb0 : a / 2 ^ j % 2 = 0 := by omega
        have hn := Lib.hid (rat_no Hc.out hL.out hb0)
        have bn := Lib.hid (rat_bound Hc.out hn.out)
        have hT : ((A / 2 ^ i.toNat).tmod 2 == 1) = false := by rw [hsh, hb0]; rfl
        have hZ : Hid (2 * r / C = ((2 * R / c : Nat) : Int)) := by
          show _ = _
          rw [hR.out, HC.out, Int.natCast_ediv]
          rfl
        have hV : Hid (2 * r % C = ((2 * R % c : Nat) : Int)) := by
          show _ = _
          rw [hR.out, HC.out, Int.natCast_emod]
          rfl
        have x0 : 0 ≤ 2 * r / C ∧ 2 * q + 2 * r / C ≤ 1152921504606846976 := by
          rw [hZ.out, hQ.out]
          have h1 := bn.out.1
          have h2 := HQ.out
          generalize 2 * R / c = z at *
          generalize a * b / c = s at *
          omega
        obtain ⟨x0, x1⟩ := x0
        have q1 : q ≤ 576460752303423488 := by omega
        clear hsh hbit hb0
        go_wp2
        go_round
        case rel => exact ⟨j, _, _, _, _, _, rfl, rfl, rfl, by show _ = _; have := hi.out; omega, by omega, by omega, by show _ = _; rw [hZ.out, hQ.out]; rfl, by show _ = _; rw [hV.out], hn.out⟩
        case measure => simp [intOf]; omega
    · obtain rfl : k = 0 := by have := hi.out; omega
      have he := Lib.hid (rat_end hL.out)
      go_wp2
      go_ret
      exact ⟨ret_int (hQ.out.trans (congrArg Nat.cast he.out)), rfl⟩
end Go.Proofs.Ytdiekkligpinkaa
