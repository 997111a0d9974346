/- The reference's logarithm. -/
import Derived.Test.YtdiekkligpinkaaLog
namespace Go.Proofs.Ytdiekkligpinkaa
open Go.RowKit

theorem log2_half {Y : Nat} (h : 2 ≤ Y) : Nat.log2 Y = Nat.log2 (Y / 2) + 1 := by
  conv => lhs; rw [Nat.log2_def, if_pos (by omega)]
theorem log2_one : Nat.log2 1 = 0 := by decide
theorem mant_low {X n : Nat} (h : n ≤ 31) : mant X n = X * 2 ^ (31 - n) := by
  unfold mant
  rw [show 63 - n = (31 - n) + 32 by omega, Nat.pow_add, ← Nat.mul_assoc]
  exact Nat.mul_div_cancel _ (by omega)
theorem mant_high {X n : Nat} (h : 31 < n) (h2 : n ≤ 62) : mant X n = X / 2 ^ (n - 31) := by
  unfold mant
  have e : (4294967296 : Nat) = 2 ^ (63 - n) * 2 ^ (n - 31) := by rw [← Nat.pow_add, show 63 - n + (n - 31) = 32 by omega]
  rw [e, Nat.mul_comm X, Nat.mul_div_mul_left _ _ (Nat.two_pow_pos _)]
def P2 (X n I M : Nat) : Prop := (n ≤ 31 ∧ n ≤ I ∧ I ≤ 31 ∧ M = X * 2 ^ (I - n)) ∨ (31 < n ∧ I = n ∧ M = X)
def P3 (X n I M : Nat) : Prop := (n ≤ 31 ∧ I = n ∧ M = mant X n) ∨ (31 < n ∧ 31 ≤ I ∧ I ≤ n ∧ M = X / 2 ^ (n - I))
theorem p2_start (X n : Nat) : P2 X n n X := by
  by_cases h : n ≤ 31
  · exact .inl ⟨h, Nat.le_refl _, h, by simp⟩
  · exact .inr ⟨by omega, rfl, rfl⟩
theorem p2_step {X n I M : Nat} (h : P2 X n I M) (hI : I < 31) (hX : X < 2 ^ (n + 1)) : P2 X n (I + 1) (2 * M) ∧ M ≤ 2147483647 := by
  rcases h with ⟨h1, h2, h3, h4⟩ | ⟨h1, h2, _⟩
  · refine ⟨.inl ⟨h1, by omega, by omega, ?_⟩, ?_⟩
    · rw [h4, show I + 1 - n = (I - n) + 1 by omega, Nat.pow_succ]
      rw [Nat.mul_comm 2, Nat.mul_assoc]
    · have a : X * 2 ^ (I - n) < 2 ^ (n + 1) * 2 ^ (I - n) := Nat.mul_lt_mul_of_pos_right hX (Nat.two_pow_pos _)
      rw [← Nat.pow_add, show n + 1 + (I - n) = I + 1 by omega] at a
      have b : 2 ^ (I + 1) ≤ 2 ^ 31 := Nat.pow_le_pow_right (by omega) (by omega)
      rw [h4]
      omega
  · omega
theorem p2_end {X n I M : Nat} (h : P2 X n I M) (hI : ¬ I < 31) : P3 X n n M := by
  rcases h with ⟨h1, h2, h3, h4⟩ | ⟨h1, h2, h3⟩
  · refine .inl ⟨h1, rfl, ?_⟩
    rw [mant_low h1, h4, show I = 31 by omega]
  · exact .inr ⟨h1, by omega, Nat.le_refl _, by rw [h3, Nat.sub_self]; simp⟩
theorem p3_step {X n I M : Nat} (h : P3 X n I M) (hI : 31 < I) : P3 X n (I - 1) (M / 2) := by
  rcases h with ⟨h1, h2, _⟩ | ⟨h1, h2, h3, h4⟩
  · omega
  · refine .inr ⟨h1, by omega, by omega, ?_⟩
    rw [h4, Nat.div_div_eq_div_mul, ← Nat.pow_succ, show (n - I).succ = n - (I - 1) by omega]
theorem p3_end {X n I M : Nat} (h : P3 X n I M) (hI : ¬ 31 < I) (hn : n ≤ 62) : M = mant X n := by
  rcases h with ⟨_, _, h3⟩ | ⟨h1, h2, h3, h4⟩
  · exact h3
  · rw [mant_high h1 hn, h4, show I = 31 by omega]

theorem p3_le {X n I M : Nat} (h : P3 X n I M) (hX : X < 9223372036854775808) (hm : mant X n < 4294967296) : M < 9223372036854775808 := by
  rcases h with ⟨_, _, h3⟩ | ⟨_, _, _, h4⟩
  · omega
  · rw [h4]; exact Nat.lt_of_le_of_lt (Nat.div_le_self _ _) hX

set_option maxRecDepth 100000 in
set_option maxHeartbeats 2000000 in
theorem rlog_pos (X : Nat) (h1 : 1 ≤ X) (h2 : X < 9223372036854775808) (w : World) :
    Calls Try.prog 8 #[.int .i64 (X : Int)] w fun e w' => e = .returned (.tuple #[.int .i64 (logN X), .int .i64 0]) ∧ w = w' := by
  have hw := whole_le (x := (X : Int)) (by omega) (by omega)
  rw [Int.toNat_natCast] at hw
  have hX : Hid (X < 2 ^ (whole X + 1)) := Nat.lt_log2_self
  have hnorm := Lib.hid (norm_steps (mant_norm h1 (by omega)))
  have hlog : Hid (logN X = (lsteps 16 (mant X (whole X), whole X)).2) := rfl
  have hwd : Hid (whole X = Nat.log2 X) := rfl
  generalize whole X = n at *
  obtain ⟨x, hx⟩ : ∃ x : Int, x = (X : Int) := ⟨_, rfl⟩
  have hx1 : 1 ≤ x := by omega
  have hx2 : x ≤ 9223372036854775807 := by omega
  rw [← hx]
  have HX := Lib.hid hx
  have H1 := Lib.hid h1
  have H2 := Lib.hid h2
  clear hx h1 h2
  go_enter Try.func8, Try.ntmps8
  go_wp2
  go_loop [4, 5] (fun a b => ∃ (j Y : Nat) (y : Int), a = .int .i64 j ∧ b = .int .i64 y ∧ Hid (y = Y) ∧ 1 ≤ y ∧ y ≤ 9223372036854775807 ∧ j ≤ 62 ∧ Hid (n = j + Nat.log2 Y)) (fun _ b => (intOf b).toNat)
  case atStart => exact ⟨0, X, x, rfl, rfl, HX, hx1, hx2, by omega, by show _ = _; rw [hwd.out]; omega⟩
  case round =>
    try (rename w = w => hww; clear hww)
    obtain ⟨j, Y, y, rfl, rfl, hY, hy1, hy2, hj, hjn⟩ := hrel
    by_cases hgt : 1 < y
    · have hn2 : Hid (n = (j + 1) + Nat.log2 (Y / 2)) := by
        have a := hjn.out
        have b := hY.out
        rw [log2_half (by omega)] at a
        show _ = _
        omega
      have hj1 : j + 1 ≤ 62 := by have := hn2.out; omega
      go_wp2
      go_round
      case rel => exact ⟨j + 1, Y / 2, y / 2, by go_num, rfl, by show _ = _; rw [hY.out]; omega, by omega, by omega, hj1, hn2⟩
      case measure => simp [intOf]; omega
    · have hjn2 : j = n := by
        have a := hjn.out
        have b := hY.out
        have c : Y = 1 := by omega
        rw [c, log2_one] at a
        omega
      subst hjn2
      clear hjn hwd
      go_wp2
      clear hx1 hx2 hgt hy1 hy2
      go_loop [6, 7] (fun m i => ∃ (I M : Nat) (z : Int), i = .int .i64 I ∧ m = .int .u64 z ∧ 0 ≤ z ∧ I ≤ 62 ∧ Hid (z = M) ∧ Hid (P2 X j I M)) (fun _ i => 31 - (intOf i).toNat)
      case atStart => exact ⟨j, X, x, rfl, rfl, by have := HX.out; omega, hw, HX, p2_start X j⟩
      case round =>
        try (rename w = w => hww; clear hww)
        obtain ⟨I, M, z, rfl, rfl, hz0, hI, hzM, hP⟩ := hrel
        by_cases hlt : I < 31
        · have hs := Lib.hid (p2_step hP.out hlt hX.out)
          have hzb : z ≤ 2147483647 := by have a := hs.out.2; have b := hzM.out; omega
          go_wp2
          go_round
          case rel => exact ⟨I + 1, 2 * M, 2 * z, by go_num, rfl, by omega, by omega, by show _ = _; rw [hzM.out]; omega, hs.out.1⟩
          case measure => simp [intOf]; omega
        · have hP3 : Hid (P3 X j j M) := p2_end hP.out hlt
          clear hP
          go_wp2
          clear hlt hI
          go_loop [6, 8] (fun m i => ∃ (I M : Nat) (z : Int), i = .int .i64 I ∧ m = .int .u64 z ∧ 0 ≤ z ∧ z ≤ 9223372036854775807 ∧ I ≤ 62 ∧ Hid (z = M) ∧ Hid (P3 X j I M)) (fun _ i => (intOf i).toNat)
          case atStart => exact ⟨j, M, z, rfl, rfl, hz0, by have a := p3_le hP3.out H2.out (hnorm.out 0).2; have b := hzM.out; omega, hw, hzM, hP3⟩
          case round =>
            try (rename w = w => hww; clear hww)
            clear hzM hP3 hz0
            obtain ⟨I, M, z, rfl, rfl, hz0, hz1, hI, hzM, hP⟩ := hrel
            by_cases hlt : 31 < I
            · have hs := Lib.hid (p3_step hP.out hlt)
              go_wp2
              go_round
              case rel => exact ⟨I - 1, M / 2, z / 2, by go_num, rfl, by omega, by omega, by omega, by show _ = _; rw [hzM.out]; omega, hs.out⟩
              case measure => simp [intOf]; omega
            · have hM : M = mant X j := p3_end hP.out hlt hw
              subst hM
              have hs1 : Hid (mant X j < 4294967296) := (hnorm.out 0).2
              have hzI := hzM.out
              clear hP
              go_wp2
              clear hlt hI hz0 hz1
              go_loop [6, 9, 10] (fun m o i => ∃ k : Nat, k ≤ 16 ∧ i = .int .i64 k ∧ LogAt (mant X j, j) k m o) (fun _ _ i => 16 - (intOf i).toNat)
              case atStart => exact ⟨0, by omega, rfl, mant X j, j, by rw [hzI], rfl, hs1.out, by omega, rfl⟩
              case round =>
                try (rename w = w => hww; clear hww)
                clear hzI hzM
                obtain ⟨k, hk, rfl, M, O, rfl, rfl, hM, hO, hL⟩ := hrel
                have hO2 := out_small hO hk
                have hq1 := sq_shift hM
                have hqb := sq_bound hM
                by_cases hlt : k < 16
                · have hy := lsteps_yes hL
                  have hn := lsteps_no hL
                  obtain ⟨q, hq⟩ : ∃ q : Nat, q = M * M / 2147483648 := ⟨_, rfl⟩
                  rw [← hq] at hq1 hqb hy hn
                  have HY := Lib.hid hy
                  have HN2 := Lib.hid hn
                  clear hq hy hn
                  obtain ⟨Q, hQ⟩ : ∃ Q : Int, Q = (q : Int) := ⟨_, rfl⟩
                  rw [← hQ] at hq1
                  have hQ0 : 0 ≤ Q := by omega
                  by_cases hc : q < 4294967296
                  · have hL1 := HY.out hc
                    have hcI : Q < 4294967296 := by omega
                    have HQ := Lib.hid hQ
                    have HC := Lib.hid hc
                    have HM2 := Lib.hid hM
                    have HB := Lib.hid hqb
                    have hOI : (O : Int) ≤ 4194303 := by omega
                    have HO := Lib.hid hO
                    clear hc hM hqb hO hO2 hQ
                    go_wp2
                    go_round
                    case rel => exact ⟨k + 1, by omega, by go_num, q, 2 * O, by first | rw [HQ.out] | rw [hq1, HQ.out], by go_num, HC.out, by have := HO.out; rw [Nat.pow_succ]; omega, hL1⟩
                    case measure => simp [intOf]; omega
                  · have hL1 := HN2.out hc
                    have hcI : (4294967296 : Int) ≤ Q := by omega
                    have hcJ : Q < 8589934592 := by omega
                    have HQ := Lib.hid hQ
                    have HC := Lib.hid hc
                    have HM2 := Lib.hid hM
                    have HB := Lib.hid hqb
                    have hOI : (O : Int) ≤ 4194303 := by omega
                    have HO := Lib.hid hO
                    clear hc hM hqb hO hO2 hQ
                    go_wp2
                    go_round
                    case rel => exact ⟨k + 1, by omega, by go_num, q / 2, 2 * O + 1, by first | (rw [HQ.out]; go_num) | (rw [hq1, HQ.out]; go_num), by go_num, by have := HB.out; omega, by have := HO.out; rw [Nat.pow_succ]; have := Nat.two_pow_pos k; omega, hL1⟩
                    case measure => simp [intOf]; omega
                · obtain rfl : k = 16 := by omega
                  have hfin : Hid (logN X = O) := by show _ = _; rw [hlog.out, hL.out]
                  go_wp2
                  go_ret2
                  exact ⟨ret_two (by rw [hfin.out]), rfl⟩
end Go.Proofs.Ytdiekkligpinkaa
