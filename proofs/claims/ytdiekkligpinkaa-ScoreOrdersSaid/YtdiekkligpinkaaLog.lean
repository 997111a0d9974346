/- The logarithm of a number, as the program and the reference reckon it. -/
import Derived.Test.YtdiekkligpinkaaBound
import Derived.Test.YtdiekkligpinkaaLib
import Derived.Test.YtdiekkligpinkaaShelf
namespace Go.Proofs.Ytdiekkligpinkaa
open Go.RowKit

theorem bitLenAux_eq : ∀ f x, 1 ≤ x → x < 2 ^ f → Lib.bitLenAux f x = Nat.log2 x + 1
  | 0, x, h1, h2 => by simp at h2; omega
  | f + 1, x, h1, h2 => by
    unfold Lib.bitLenAux
    rw [if_neg (by omega)]
    by_cases h : x < 2
    · obtain rfl : x = 1 := by omega
      have : Nat.log2 1 = 0 := by decide
      rw [this]
      cases f <;> simp [Lib.bitLenAux]
    · rw [bitLenAux_eq f (x / 2) (by omega) (by rw [Nat.pow_succ] at h2; omega)]
      conv => rhs; rw [Nat.log2_def, if_pos (by omega)]
      omega
theorem len_any (x : Int) (h1 : 1 ≤ x) (h2 : x ≤ 9223372036854775807) (w : World) :
    Calls Try.prog 16 #[.int .u64 x] w fun e w' => e = .returned (.int .i64 ((whole x.toNat : Int) + 1)) ∧ w = w' := by
  refine (Try.bits_Len64 x w (by omega) (by omega)).mono fun e w' ⟨he, hw⟩ => ⟨?_, hw.symm⟩
  rw [he]
  have : Lib.bitLen x.toNat = whole x.toNat + 1 := bitLenAux_eq 64 x.toNat (by omega) (by omega)
  rw [this]
  rfl
theorem whole_le {x : Int} (h1 : 1 ≤ x) (h2 : x ≤ 9223372036854775807) : whole x.toNat ≤ 62 := by
  unfold whole
  have := (Nat.log2_lt (k := 63) (by omega : x.toNat ≠ 0)).2 (by omega)
  omega

theorem mant_wrap {X n : Nat} (h : X * 2 ^ (63 - n) < 2 ^ 64) : IntKind.u64.wrap ((X : Int) * 2 ^ (63 - n)) / 4294967296 = ((mant X n : Nat) : Int) := by
  have e : (X : Int) * 2 ^ (63 - n) = ((X * 2 ^ (63 - n) : Nat) : Int) := by push_cast; rfl
  rw [e, IntWalk.u64_in _ (by omega)]
  unfold mant
  omega
theorem mant_fit {X : Nat} (h0 : 1 ≤ X) (h63 : X < 2 ^ 63) : X * 2 ^ (63 - whole X) < 2 ^ 64 := by
  have h2 : X < 2 ^ (whole X + 1) := Nat.lt_log2_self
  have hw : whole X ≤ 62 := by
    unfold whole
    have := (Nat.log2_lt (by omega : X ≠ 0)).2 h63
    omega
  have e2 : 2 ^ (whole X + 1) * 2 ^ (63 - whole X) = 2 ^ 64 := by rw [← Nat.pow_add]; congr 1; omega
  rw [← e2]
  exact Nat.mul_lt_mul_of_pos_right h2 (Nat.two_pow_pos _)
theorem lsteps_yes {k M O : Nat} {s : Nat × Nat} (h : Hid (lsteps k s = (M, O))) (hm : M * M / 2147483648 < 4294967296) : Hid (lsteps (k + 1) s = (M * M / 2147483648, 2 * O)) := by
  have h := h.out
  show _ = _
  rw [lsteps, h, lstep, if_pos hm]
theorem lsteps_no {k M O : Nat} {s : Nat × Nat} (h : Hid (lsteps k s = (M, O))) (hm : ¬ M * M / 2147483648 < 4294967296) : Hid (lsteps (k + 1) s = (M * M / 2147483648 / 2, 2 * O + 1)) := by
  have h := h.out
  show _ = _
  rw [lsteps, h, lstep, if_neg hm]

theorem ret_two {a b : Int} {v : Value} (h : a = b) : Ending.returned (.tuple #[.int .i64 a, v]) = .returned (.tuple #[.int .i64 b, v]) := by rw [h]
theorem sq_le {M : Nat} (h : M < 4294967296) : M * M ≤ 18446744065119617025 := Nat.le_trans (Nat.mul_le_mul (by omega : M ≤ 4294967295) (by omega : M ≤ 4294967295)) (by omega)
theorem sq_shift {M : Nat} (h : M < 4294967296) : IntKind.u64.wrap ((M : Int) * (M : Int)) / 2147483648 = ((M * M / 2147483648 : Nat) : Int) := by
  have h2 := sq_le h
  have e : (M : Int) * (M : Int) = ((M * M : Nat) : Int) := by rw [Int.natCast_mul]
  rw [e]
  generalize M * M = y at *
  rw [IntWalk.u64_in _ (by omega)]
  omega
theorem sq_bound {M : Nat} (h : M < 4294967296) : M * M / 2147483648 < 8589934592 := by
  have h2 := sq_le h
  generalize M * M = y at *
  omega
def LogAt (s : Nat × Nat) (k : Nat) (m o : Value) : Prop := ∃ M O : Nat, m = .int .u64 M ∧ o = .int .i64 O ∧ M < 4294967296 ∧ O < 64 * 2 ^ k ∧ Hid (lsteps k s = (M, O))
theorem out_small {k O : Nat} (h : O < 64 * 2 ^ k) (hk : k ≤ 16) : O ≤ 4194303 := by
  have : 2 ^ k ≤ 2 ^ 16 := Nat.pow_le_pow_right (by omega) hk
  omega

set_option maxRecDepth 100000 in
set_option maxHeartbeats 1000000 in
theorem log_pos (X : Nat) (h1 : 1 ≤ X) (h2 : X < 9223372036854775808) (w : World) :
    Calls Try.prog 7 #[.int .i64 (X : Int)] w fun e w' => e = .returned (.tuple #[.int .i64 (logN X), .int .i64 0]) ∧ w = w' := by
  have hw := whole_le (x := (X : Int)) (by omega) (by omega)
  have HL := Lib.hid (len_any (X : Int) (by omega) (by omega))
  have hmw := mant_wrap (mant_fit h1 (by omega))
  rw [Int.toNat_natCast] at HL hw
  have hnorm := norm_steps (mant_norm h1 (by omega))
  obtain ⟨n, hn⟩ : ∃ n : Nat, n = whole X := ⟨_, rfl⟩
  rw [← hn] at HL hw hmw hnorm
  have hs : Hid (logN X = (lsteps 16 (mant X n, n)).2) := by show _ = _; rw [hn]; rfl
  have HM := Lib.hid hnorm
  clear hn hnorm
  obtain ⟨s0, hs0⟩ : ∃ s0 : Nat, s0 = mant X n := ⟨_, rfl⟩
  rw [← hs0] at hmw hs HM
  clear hs0
  have hs1 : Hid (s0 < 4294967296) := (HM.out 0).2
  go_enter Try.func7, Try.ntmps7
  go_wp2_with (go_at_call 16; refine (HL.out _).mono ?_; rintro e w' ⟨rfl, rfl⟩)
  clear hmw h1 h2 HL
  generalize IntKind.u64.wrap ((X : Int) * 2 ^ (63 - n)) = gw
  go_loop [5, 6, 20] (fun m o i => ∃ k : Nat, k ≤ 16 ∧ i = .int .i64 k ∧ LogAt (s0, n) k m o) (fun _ _ i => 16 - (intOf i).toNat)
  case atStart => exact ⟨0, by omega, rfl, s0, n, rfl, rfl, hs1.out, by omega, rfl⟩
  case round =>
    rename w = w => hww
    clear hww
    obtain ⟨k, hk, rfl, M, O, rfl, rfl, hM, hO, hL⟩ := hrel
    have hO2 := out_small hO hk
    have hq1 := sq_shift hM
    have hqb := sq_bound hM
    by_cases hlt : k < 16
    · have hy := lsteps_yes hL
      have hn := lsteps_no hL
      obtain ⟨q, hq⟩ : ∃ q : Nat, q = M * M / 2147483648 := ⟨_, rfl⟩
      rw [← hq] at hq1 hqb hy hn
      have HY := Lib.hid hy
      have HN2 := Lib.hid hn
      clear hq hy hn
      obtain ⟨Q, hQ⟩ : ∃ Q : Int, Q = (q : Int) := ⟨_, rfl⟩
      rw [← hQ] at hq1
      have hQ0 : 0 ≤ Q := by omega
      by_cases hc : q < 4294967296
      · have hL1 := HY.out hc
        have hcI : Q < 4294967296 := by omega
        have HQ := Lib.hid hQ
        have HC := Lib.hid hc
        have HM2 := Lib.hid hM
        have HB := Lib.hid hqb
        have hOI : (O : Int) ≤ 4194303 := by omega
        have HO := Lib.hid hO
        clear hc hM hqb hO hO2 hQ
        go_wp2
        go_round
        case rel => exact ⟨k + 1, by omega, by go_num, q, 2 * O, by rw [HQ.out], by go_num, HC.out, by have := HO.out; rw [Nat.pow_succ]; omega, hL1⟩
        case measure => simp [intOf]; omega
      · have hL1 := HN2.out hc
        have hcI : (4294967296 : Int) ≤ Q := by omega
        have hcJ : Q < 8589934592 := by omega
        have HQ := Lib.hid hQ
        have HC := Lib.hid hc
        have HM2 := Lib.hid hM
        have HB := Lib.hid hqb
        have hOI : (O : Int) ≤ 4194303 := by omega
        have HO := Lib.hid hO
        clear hc hM hqb hO hO2 hQ
        go_wp2
        go_round
        case rel => exact ⟨k + 1, by omega, by go_num, q / 2, 2 * O + 1, by rw [HQ.out]; go_num, by go_num, by have := HB.out; omega, by have := HO.out; rw [Nat.pow_succ]; have := Nat.two_pow_pos k; omega, hL1⟩
        case measure => simp [intOf]; omega
    · obtain rfl : k = 16 := by omega
      have hfin : Hid (logN X = O) := by show _ = _; rw [hs.out, hL.out]
      go_wp2
      go_ret2
      exact ⟨ret_two (by rw [hfin.out]), rfl⟩
end Go.Proofs.Ytdiekkligpinkaa
