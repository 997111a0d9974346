/- math/bits.Div64: what it returns. -/
import Derived.Test.YtdiekkligpinkaaDiv
import Derived.Laws.BitsAllLaws
namespace Go.Proofs.Ytdiekkligpinkaa
open Go.RowKit

def lead (y : Nat) : Nat := 64 - (whole y + 1)
theorem lead_any (y : Nat) (h1 : 1 ≤ y) (h2 : y < 18446744073709551616) (w : World) :
    Calls Try.prog 20 #[.int .u64 (y : Int)] w fun e w' => e = .returned (.int .i64 (lead y)) ∧ w = w' := by
  refine (Try.bits_LeadingZeros64 y w (by omega) (by omega)).mono fun e w' ⟨he, hw⟩ => ⟨?_, hw.symm⟩
  rw [he]
  have hb : Lib.bitLen y = whole y + 1 := bitLenAux_eq 64 y h1 (by omega)
  have hw : whole y < 64 := (Nat.log2_lt (by omega : y ≠ 0)).2 (by omega)
  unfold lead
  rw [Int.toNat_natCast, hb]
  exact ret_int (by omega)
theorem lead_lt {y : Nat} (h1 : 1 ≤ y) (h2 : y < 18446744073709551616) : lead y ≤ 63 ∧ 9223372036854775808 ≤ y * 2 ^ lead y ∧ y * 2 ^ lead y < 18446744073709551616 := by
  have hw : whole y < 64 := (Nat.log2_lt (by omega : y ≠ 0)).2 (by omega)
  have a : 2 ^ whole y ≤ y := Nat.log2_self_le (by omega)
  have b : y < 2 ^ (whole y + 1) := Nat.lt_log2_self
  unfold lead
  have e1 : 2 ^ whole y * 2 ^ (64 - (whole y + 1)) = 2 ^ 63 := by rw [← Nat.pow_add]; congr 1; omega
  have e2 : 2 ^ (whole y + 1) * 2 ^ (64 - (whole y + 1)) = 2 ^ 64 := by rw [← Nat.pow_add]; congr 1; omega
  have c := Nat.mul_le_mul_right (2 ^ (64 - (whole y + 1))) a
  have d := Nat.mul_lt_mul_of_pos_right b (Nat.two_pow_pos (64 - (whole y + 1)))
  omega

theorem ret_twou {a b r : Int} (h : a = b) : Ending.returned (.tuple #[.int .u64 a, .int .u64 r]) = .returned (.tuple #[.int .u64 b, .int .u64 r]) := by rw [h]
theorem wrap_div {lo y : Nat} (h : lo < 18446744073709551616) : IntKind.u64.wrap ((lo : Int) / (y : Int)) = ((lo / y : Nat) : Int) := by
  rw [← Int.natCast_ediv]
  have := Nat.div_le_self lo y
  generalize lo / y = z at *
  exact IntWalk.u64_in _ (by omega)

theorem and_mask {a : Int} (h0 : 0 ≤ a) (h1 : a ≤ 18446744073709551615) : bits .and .u64 a 4294967295 = a % 4294967296 := by
  rw [u64_and a 4294967295 h0 (by omega) (by omega) (by omega)]
  have : a.toNat &&& (4294967295 : Int).toNat = a.toNat % 2 ^ 32 := by
    rw [show (4294967295 : Int).toNat = 2 ^ 32 - 1 from rfl, Nat.and_two_pow_sub_one_eq_mod]
  rw [this]
  omega

set_option maxHeartbeats 1000000 in
theorem div_low (lo y : Nat) (hy : 1 ≤ y) (hlo : lo < 18446744073709551616) (w : World) :
    Calls Try.prog 18 #[.int .u64 0, .int .u64 (lo : Int), .int .u64 (y : Int)] w fun e w' => (∃ r : Int, e = .returned (.tuple #[.int .u64 ((lo / y : Nat) : Int), .int .u64 r])) ∧ ∃ q, w' = w.drewN q := by
  have h0 : ((y : Int) == 0) = false := by simp; omega
  have hI : (1 : Int) ≤ (y : Int) := by omega
  go_enter Try.func18, Try.ntmps18
  go_wp2
  go_quiet (fail)
  go_wp2
  go_ret2
  exact ⟨⟨_, ret_twou (wrap_div hlo)⟩, _, rfl⟩

/-- The operands moved up: U and L are the two words of (hi, lo) moved up by S. -/
theorem norm_parts {hi lo y S : Nat} (hy : hi < y) (hlo : lo < 18446744073709551616) (hS : S ≤ 63) (hYb : y * 2 ^ S < 18446744073709551616) :
    ∃ U L : Nat, bits .or .u64 (IntKind.u64.wrap ((hi : Int) * 2 ^ S)) ((lo : Int) / 2 ^ (64 - S)) = (U : Int) ∧ IntKind.u64.wrap ((lo : Int) * 2 ^ S) = (L : Int) ∧ U < y * 2 ^ S ∧ L < 18446744073709551616 ∧
      (hi * 18446744073709551616 + lo) * 2 ^ S = U * 18446744073709551616 + L := by
  have hp : 0 < 2 ^ S := Nat.two_pow_pos S
  have hp2 : 0 < 2 ^ (64 - S) := Nat.two_pow_pos _
  have hpp : 2 ^ (64 - S) * 2 ^ S = 18446744073709551616 := by rw [← Nat.pow_add, show 64 - S + S = 64 by omega]
  have hh : hi * 2 ^ S + 2 ^ S ≤ y * 2 ^ S := by
    have := Nat.mul_le_mul_right (2 ^ S) hy
    rw [Nat.succ_mul] at this
    exact this
  have hl : lo / 2 ^ (64 - S) < 2 ^ S := by rw [Nat.div_lt_iff_lt_mul hp2, Nat.mul_comm, hpp]; exact hlo
  refine ⟨hi * 2 ^ S + lo / 2 ^ (64 - S), lo % 2 ^ (64 - S) * 2 ^ S, ?_, ?_, by omega, ?_, ?_⟩
  · have e1 : IntKind.u64.wrap ((hi : Int) * 2 ^ S) = ((hi * 2 ^ S : Nat) : Int) := by
      rw [show (hi : Int) * 2 ^ S = ((hi * 2 ^ S : Nat) : Int) by push_cast; rfl]
      generalize hi * 2 ^ S = z at *
      exact IntWalk.u64_in _ (by omega)
    have e2 : (lo : Int) / 2 ^ (64 - S) = ((lo / 2 ^ (64 - S) : Nat) : Int) := by push_cast; rfl
    rw [e1, e2, u64_or_nat _ _ (by omega) (by omega), Nat.mul_comm hi, ← Nat.two_pow_add_eq_or_of_lt hl]
  · have e3 : (lo : Int) * 2 ^ S = ((lo % 2 ^ (64 - S) * 2 ^ S + lo / 2 ^ (64 - S) * 18446744073709551616 : Nat) : Int) := by
      have := Nat.div_add_mod lo (2 ^ (64 - S))
      have h2 : lo * 2 ^ S = lo % 2 ^ (64 - S) * 2 ^ S + lo / 2 ^ (64 - S) * 18446744073709551616 := by
        conv => lhs; rw [← this]
        rw [Nat.add_mul, ← hpp, Nat.add_comm]
        congr 1
        ac_rfl
      rw [← h2]
      push_cast
      rfl
    have hb : lo % 2 ^ (64 - S) * 2 ^ S < 18446744073709551616 := by rw [← hpp]; exact Nat.mul_lt_mul_of_pos_right (Nat.mod_lt _ hp2) hp
    rw [e3]
    generalize lo % 2 ^ (64 - S) * 2 ^ S = a at *
    generalize lo / 2 ^ (64 - S) = b at *
    rw [IntKind.wrap_u64]
    omega
  · rw [← hpp]; exact Nat.mul_lt_mul_of_pos_right (Nat.mod_lt _ hp2) hp
  · have := Nat.div_add_mod lo (2 ^ (64 - S))
    generalize hq : lo / 2 ^ (64 - S) = q at *
    generalize lo % 2 ^ (64 - S) = r at *
    rw [← this]
    have a1 : (hi * 18446744073709551616 + (2 ^ (64 - S) * q + r)) * 2 ^ S = hi * 18446744073709551616 * 2 ^ S + q * (2 ^ (64 - S) * 2 ^ S) + r * 2 ^ S := by
      rw [Nat.add_mul, Nat.add_mul]
      have : 2 ^ (64 - S) * q * 2 ^ S = q * (2 ^ (64 - S) * 2 ^ S) := by ac_rfl
      rw [this]
      omega
    have a2 : hi * 18446744073709551616 * 2 ^ S = hi * 2 ^ S * 18446744073709551616 := by ac_rfl
    rw [a1, hpp, a2, Nat.add_mul]

theorem first_guess {u d y1 y0 : Nat} {UI y1I : Int} (h : Guess 4294967296 u d y1 y0 (u / y1) (u % y1)) (hU : UI = (u : Int)) (hy : y1I = (y1 : Int)) (hub : UI ≤ 18446744073709551615) (hyb : 2147483648 ≤ y1I ∧ y1I ≤ 4294967295) :
    ∃ q r : Int, UI / y1I = q ∧ IntKind.u64.wrap (q * y1I) = UI - r ∧ UI - (UI - r) = r ∧ 0 ≤ q ∧ q ≤ 4294967297 ∧ 0 ≤ r ∧ r ≤ 4294967295 ∧ Guess 4294967296 u d y1 y0 q.toNat r.toNat := by
  have hr : u % y1 < y1 := Nat.mod_lt _ (by omega)
  generalize hz : u / y1 = z at h
  generalize hrr : u % y1 = r at h hr
  have hs := h.small
  have hsum := h.sum
  refine ⟨(z : Int), (r : Int), ?_, ?_, by omega, by omega, by omega, by omega, by omega, by simpa using h⟩
  · rw [hU, hy, ← hz]; push_cast; rfl
  · have e : (z : Int) * y1I = ((z * y1 : Nat) : Int) := by rw [hy]; push_cast; rfl
    rw [e]
    generalize z * y1 = x at *
    rw [IntWalk.u64_in _ (by omega)]
    omega

def KInv (u d y1 y0 : Nat) (a b : Value) : Prop := ∃ q r : Int, a = .int .u64 q ∧ b = .int .u64 r ∧ 0 ≤ q ∧ q ≤ 4294967297 ∧ 0 ≤ r ∧ r ≤ 4294967295 ∧ Hid (Guess 4294967296 u d y1 y0 q.toNat r.toNat)
theorem mul_rule {q y0 : Int} {Y0 : Nat} (hq : 0 ≤ q) (hq2 : q ≤ 4294967297) (hy : y0 = (Y0 : Int)) (hy2 : Y0 < 4294967296) : ∃ P : Int, IntKind.u64.wrap (q * y0) = P ∧ Hid (P = ((q.toNat * Y0 : Nat) : Int)) := by
  refine ⟨((q.toNat * Y0 : Nat) : Int), ?_, rfl⟩
  have e : q * y0 = ((q.toNat * Y0 : Nat) : Int) := by rw [hy, Int.natCast_mul, Int.toNat_of_nonneg hq]
  have b : q.toNat * Y0 ≤ 4294967297 * 4294967295 := Nat.mul_le_mul (by omega) (by omega)
  rw [e]
  generalize q.toNat * Y0 = z at *
  exact IntWalk.u64_in _ (by omega)
theorem kn_stop {u d Y1 Y0 : Nat} {q r dI P : Int} (hy : 0 < Y1 * 4294967296 + Y0) (h : Hid (Guess 4294967296 u d Y1 Y0 q.toNat r.toNat)) (hr : 0 ≤ r) (hd : dI = (d : Int)) (hP : Hid (P = ((q.toNat * Y0 : Nat) : Int))) (hc : ¬ 4294967296 * r + dI < P) :
    Hid (q.toNat = (u * 4294967296 + d) / (Y1 * 4294967296 + Y0)) := by
  have hP := hP.out
  refine guess_stop hy h.out ?_
  generalize q.toNat * Y0 = z at *
  omega
theorem kn_step {u d Y1 Y0 : Nat} {q r dI P y1 : Int} (hu : u < Y1 * 4294967296 + Y0) (hd2 : d < 4294967296) (h : Hid (Guess 4294967296 u d Y1 Y0 q.toNat r.toNat)) (hr : 0 ≤ r) (hy1 : y1 = (Y1 : Int)) (hd : dI = (d : Int)) (hP : Hid (P = ((q.toNat * Y0 : Nat) : Int)))
    (hc : 4294967296 ≤ q ∨ 4294967296 * r + dI < P) : Hid (Guess 4294967296 u d Y1 Y0 (q - 1).toNat (r + y1).toNat) ∧ 1 ≤ q ∧ q - 1 ≤ 4294967296 := by
  have hP := hP.out
  have k := guess_step hu hd2 h.out (by
    rcases hc with hc | hc
    · left; omega
    · right; generalize q.toNat * Y0 = z at *; omega)
  have e1 : (q - 1).toNat = q.toNat - 1 := by omega
  have e2 : (r + y1).toNat = r.toNat + Y1 := by omega
  obtain ⟨k1, k2, k3⟩ := k
  refine ⟨?_, by omega, by omega⟩
  show Guess _ _ _ _ _ _ _
  rw [e1, e2]
  exact k1
theorem kn_break {u d Y1 Y0 : Nat} {q r : Int} (hy : 0 < Y1 * 4294967296 + Y0) (h0 : Y0 < 4294967296) (h : Hid (Guess 4294967296 u d Y1 Y0 q.toNat r.toNat)) (hq : q ≤ 4294967296) (hr : 4294967296 ≤ r) :
    Hid (q.toNat = (u * 4294967296 + d) / (Y1 * 4294967296 + Y0)) := guess_break hy h0 h.out (by omega) (by omega)
theorem rem_rule {U D1 Y : Nat} {q UI d1 YI : Int} (hq0 : 0 ≤ q) (hq : Hid (q.toNat = (U * 4294967296 + D1) / Y)) (hU : UI = (U : Int)) (hd : d1 = (D1 : Int)) (hY : YI = (Y : Int)) (hUY : U < Y) (hYb : Y < 18446744073709551616) (hD : D1 < 4294967296) :
    ∃ a b V : Int, IntKind.u64.wrap (UI * 4294967296) = a ∧ 0 ≤ a ∧ a ≤ 18446744069414584320 ∧ IntKind.u64.wrap (q * YI) = b ∧ IntKind.u64.wrap (a + d1 - b) = V ∧ Hid (V = (((U * 4294967296 + D1) % Y : Nat) : Int)) ∧ 0 ≤ V ∧ V ≤ 18446744073709551614 ∧ q ≤ 4294967295 := by
  have hq := hq.out
  have hlt := div_lt (B := 4294967296) hUY hD
  have hdm := Nat.div_add_mod (U * 4294967296 + D1) Y
  have hm := Nat.mod_lt (U * 4294967296 + D1) (show 0 < Y by omega)
  have e : q * YI = ((Y * ((U * 4294967296 + D1) / Y) : Nat) : Int) := by rw [hY, ← hq, Int.natCast_mul, Int.toNat_of_nonneg hq0, Int.mul_comm]
  refine ⟨_, _, (((U * 4294967296 + D1) % Y : Nat) : Int), rfl, ?_, ?_, rfl, ?_, rfl, by omega, by omega, by omega⟩
  · rw [IntKind.wrap_u64]; omega
  · rw [IntKind.wrap_u64, hU]; omega
  · rw [e]
    generalize Y * ((U * 4294967296 + D1) / Y) = z at *
    generalize (U * 4294967296 + D1) % Y = v at *
    simp only [IntKind.wrap_u64]
    omega
theorem div_final {hi lo y U D1 D0 Y : Nat} {q g : Int} (h : Hid ((hi * 18446744073709551616 + lo) / y = ((U * 4294967296 + D1) * 4294967296 + D0) / Y)) (hY : 0 < Y) (hq0 : 0 ≤ q) (hg0 : 0 ≤ g)
    (hq : Hid (q.toNat = (U * 4294967296 + D1) / Y)) (hg : Hid (g.toNat = ((U * 4294967296 + D1) % Y * 4294967296 + D0) / Y)) : q * 4294967296 + g = (((hi * 18446744073709551616 + lo) / y : Nat) : Int) := by
  rw [h.out, two_digits hY, ← hq.out, ← hg.out]
  omega

set_option maxRecDepth 100000 in
set_option maxHeartbeats 20000000 in
theorem div_high (hi lo y : Nat) (hy : hi < y) (h1 : 1 ≤ hi) (hyb : y < 18446744073709551616) (hlo : lo < 18446744073709551616) (w : World) :
    Calls Try.prog 18 #[.int .u64 (hi : Int), .int .u64 (lo : Int), .int .u64 (y : Int)] w fun e w' => (∃ r : Int, e = .returned (.tuple #[.int .u64 (((hi * 18446744073709551616 + lo) / y : Nat) : Int), .int .u64 r])) ∧ w = w' := by
  have h0 : ((y : Int) == 0) = false := by simp; omega
  have h0h : ((hi : Int) == 0) = false := by simp; omega
  have hle : decide ((y : Int) ≤ (hi : Int)) = false := by simp; omega
  have hln : decide (y ≤ hi) = false := by simp; omega
  have d0 : decide (y = 0) = false := by simp; omega
  have dh : decide (hi = 0) = false := by simp; omega
  have HL := Lib.hid (lead_any y (by omega) hyb)
  have hS := (lead_lt (y := y) (by omega) hyb).1
  have HS := Lib.hid (lead_lt (y := y) (by omega) hyb).2
  generalize lead y = S at *
  obtain ⟨U, L, R3, R4, hU, hL, hUL⟩ := norm_parts (S := S) hy hlo hS HS.out.2
  have hquot : Hid ((hi * 18446744073709551616 + lo) / y = ((U * 4294967296 + L / 4294967296) * 4294967296 + L % 4294967296) / (y * 2 ^ S)) := by
    show _ = _
    have e : U * 18446744073709551616 + L = (U * 4294967296 + L / 4294967296) * 4294967296 + L % 4294967296 := by omega
    rw [← Nat.mul_div_mul_right _ y (Nat.two_pow_pos S), hUL, e]
  have E1 : IntKind.u64.wrap ((y : Int) * 2 ^ S) = ((y * 2 ^ S : Nat) : Int) := by
    have b := HS.out.2
    rw [show (y : Int) * 2 ^ S = ((y * 2 ^ S : Nat) : Int) by push_cast; rfl]
    generalize y * 2 ^ S = z at *
    exact IntWalk.u64_in _ (by omega)
  have hY1 := HS.out.1
  have hY2 := HS.out.2
  generalize y * 2 ^ S = Y at *
  clear HS hUL
  obtain ⟨Y1, hy1e⟩ : ∃ Y1 : Nat, Y1 = Y / 4294967296 := ⟨_, rfl⟩
  obtain ⟨Y0, hy0e⟩ : ∃ Y0 : Nat, Y0 = Y % 4294967296 := ⟨_, rfl⟩
  obtain ⟨D1, hd1e⟩ : ∃ D1 : Nat, D1 = L / 4294967296 := ⟨_, rfl⟩
  obtain ⟨D0, hd0e⟩ : ∃ D0 : Nat, D0 = L % 4294967296 := ⟨_, rfl⟩
  rw [← hd1e, ← hd0e] at hquot
  obtain ⟨YI, hYI⟩ : ∃ x : Int, x = (Y : Int) := ⟨_, rfl⟩
  obtain ⟨UI, hUI⟩ : ∃ x : Int, x = (U : Int) := ⟨_, rfl⟩
  obtain ⟨LI, hLI⟩ : ∃ x : Int, x = (L : Int) := ⟨_, rfl⟩
  obtain ⟨y1, hy1⟩ : ∃ x : Int, x = (Y1 : Int) := ⟨_, rfl⟩
  obtain ⟨y0, hy0⟩ : ∃ x : Int, x = (Y0 : Int) := ⟨_, rfl⟩
  obtain ⟨d1, hd1⟩ : ∃ x : Int, x = (D1 : Int) := ⟨_, rfl⟩
  obtain ⟨d0x, hd0⟩ : ∃ x : Int, x = (D0 : Int) := ⟨_, rfl⟩
  rw [← hYI] at E1
  rw [← hUI] at R3
  rw [← hLI] at R4
  have R1 : YI / 4294967296 = y1 := by omega
  have E2 : bits .and .u64 YI 4294967295 = y0 := by rw [and_mask (by omega) (by omega)]; omega
  have R5 : LI / 4294967296 = d1 := by omega
  have E5 : bits .and .u64 LI 4294967295 = d0x := by rw [and_mask (by omega) (by omega)]; omega
  have bYI : YI ≤ 18446744073709551615 := by omega
  have by1 : 2147483648 ≤ y1 := by omega
  have by1b : y1 ≤ 4294967295 := by omega
  have by0 : 0 ≤ y0 := by omega
  have by0b : y0 ≤ 4294967295 := by omega
  have bd1 : 0 ≤ d1 := by omega
  have bd1b : d1 ≤ 4294967295 := by omega
  have bd0 : 0 ≤ d0x := by omega
  have bd0b : d0x ≤ 4294967295 := by omega
  have bU : 0 ≤ UI := by omega
  have bUb : UI ≤ 18446744073709551614 := by omega
  have eY : Hid (Y1 * 4294967296 + Y0 = Y) := by show _ = _; omega
  have nY1 : Hid (4294967296 ≤ 2 * Y1 ∧ Y0 < 4294967296 ∧ D1 < 4294967296 ∧ D0 < 4294967296) := by show _ ∧ _ ∧ _ ∧ _; omega
  have HYI := Lib.hid hYI
  have HUI := Lib.hid hUI
  have Hy1 := Lib.hid hy1
  have Hy0 := Lib.hid hy0
  have Hd1 := Lib.hid hd1
  have Hd0 := Lib.hid hd0
  have HU := Lib.hid hU
  have gs := Lib.hid (guess_start (B := 4294967296) (u := U) (d := D1) (y1 := Y1) (y0 := Y0) (by rw [eY.out]; exact hU) nY1.out.2.2.1 nY1.out.1 nY1.out.2.1)
  obtain ⟨q0, r0, R7, R8, R9, bq0, bq0b, br0, br0b, hg0⟩ := first_guess gs.out HUI.out Hy1.out (by omega) (by omega)
  have HG0 := Lib.hid hg0
  clear hYI hUI hLI hy1 hy0 hd1 hd0 hU hL hy1e hy0e hd1e hd0e hY1 hY2 hyb hlo hy gs hg0
  go_enter Try.func18, Try.ntmps18
  go_wp2_with (go_at_call 20; refine (HL.out _).mono ?_; rintro e w1 ⟨rfl, rfl⟩)
  clear R3 R4 R1 E1 E2 R5 E5 R8 R9 HL
  go_loop [15, 16] (fun a b => KInv U D1 Y1 Y0 a b) (fun a _ => (intOf a).toNat)
  case atStart => exact ⟨q0, r0, by rw [R7], rfl, bq0, bq0b, br0, br0b, HG0.out⟩
  case round =>
    try (rename w = w => hww; clear hww)
    clear R7 HG0 bq0 bq0b br0 br0b
    obtain ⟨q, r, rfl, rfl, bq, bqb, br, brb, hG⟩ := hrel
    obtain ⟨P, RP, hP⟩ := mul_rule bq bqb Hy0.out nY1.out.2.1
    by_cases c1 : 4294967296 ≤ q
    · have hc := Lib.hid (Or.inl c1 : 4294967296 ≤ q ∨ 4294967296 * r + d1 < P)
      have hst := Lib.hid (kn_step (y1 := y1) (by rw [eY.out]; exact HU.out) nY1.out.2.2.1 hG br Hy1.out Hd1.out hP hc.out)
      have hq1 := hst.out.2.1
      obtain ⟨q2, hq2⟩ : ∃ q2 : Int, q - 1 = q2 := ⟨_, rfl⟩
      obtain ⟨r2, hr2⟩ : ∃ r2 : Int, r + y1 = r2 := ⟨_, rfl⟩
      have bq2 : 0 ≤ q2 := by omega
      have bq2b : q2 ≤ 4294967296 := by have := hst.out.2.2; omega
      have br2 : 0 ≤ r2 := by omega
      have hG2 : Hid (Guess 4294967296 U D1 Y1 Y0 q2.toNat r2.toNat) := by rw [← hq2, ← hr2]; exact hst.out.1
      have hless : Hid (q2.toNat < q.toNat) := by show _ < _; omega
      by_cases c3 : 4294967296 ≤ r2
      · have hQ := kn_break (by rw [eY.out]; have := HU.out; omega) nY1.out.2.1 hG2 bq2b c3
        rw [eY.out] at hQ
        have hYb : Y < 18446744073709551616 := by have := HYI.out; omega
        obtain ⟨a1, b1, V, T1, ba1, ba1b, T2, T3, hV, bV, bVb, bqe⟩ := rem_rule (q := q2) (by omega) hQ HUI.out Hd1.out HYI.out HU.out hYb nY1.out.2.2.1
        obtain ⟨VN, hVN⟩ : ∃ VN : Nat, VN = (U * 4294967296 + D1) % Y := ⟨_, rfl⟩
        have hVlt : Hid (VN < Y1 * 4294967296 + Y0) := by
          show _ < _
          rw [eY.out, hVN]
          exact Nat.mod_lt _ (by have := HU.out; omega)
        rw [← hVN] at hV
        have gs2 := Lib.hid (guess_start (B := 4294967296) (u := VN) (d := D0) (y1 := Y1) (y0 := Y0) hVlt.out nY1.out.2.2.2 nY1.out.1 nY1.out.2.1)
        obtain ⟨g0, s0, S7, S8, S9, bg0, bg0b, bs0, bs0b, hg0⟩ := first_guess gs2.out hV.out Hy1.out (by omega) (by omega)
        have HG1 := Lib.hid hg0
        have HVN := Lib.hid hVN
        have HYb := Lib.hid hYb
        clear hg0 gs2 hVN hYb
        go_wp2
        clear RP hP
        go_loop [16, 18] (fun b a => KInv VN D0 Y1 Y0 a b) (fun _ a => (intOf a).toNat)
        case atStart => exact ⟨g0, s0, by first | rfl | rw [S7], rfl, bg0, bg0b, bs0, bs0b, HG1.out⟩
        case round =>
          try (rename w = w => hww; clear hww)
          clear S7 S8 S9 T1 T2 T3
          obtain ⟨g, s, rfl, rfl, bg, bgb, bs, bsb, hG3⟩ := hrel
          obtain ⟨P2, RP2, hP2⟩ := mul_rule bg bgb Hy0.out nY1.out.2.1
          by_cases k1 : 4294967296 ≤ g
          · have hc2 := Lib.hid (Or.inl k1 : 4294967296 ≤ g ∨ 4294967296 * s + d0x < P2)
            have hst2 := Lib.hid (kn_step (y1 := y1) hVlt.out nY1.out.2.2.2 hG3 bs Hy1.out Hd0.out hP2 hc2.out)
            have hg1 := hst2.out.2.1
            obtain ⟨g2, hg2⟩ : ∃ g2 : Int, g - 1 = g2 := ⟨_, rfl⟩
            obtain ⟨s2, hs2⟩ : ∃ s2 : Int, s + y1 = s2 := ⟨_, rfl⟩
            have bg2 : 0 ≤ g2 := by omega
            have bg2b : g2 ≤ 4294967296 := by have := hst2.out.2.2; omega
            have bs2 : 0 ≤ s2 := by omega
            have hG4 : Hid (Guess 4294967296 VN D0 Y1 Y0 g2.toNat s2.toNat) := by rw [← hg2, ← hs2]; exact hst2.out.1
            have hless2 : Hid (g2.toNat < g.toNat) := by show _ < _; omega
            by_cases k3 : 4294967296 ≤ s2
            · have hQ2 := kn_break (by have := hVlt.out; omega) nY1.out.2.1 hG4 bg2b k3
              rw [eY.out, HVN.out] at hQ2
              have bge : g2 ≤ 4294967295 := by
                have a := hQ2.out
                have b := div_lt (B := 4294967296) (u := (U * 4294967296 + D1) % Y) (d := D0) (y := Y) (Nat.mod_lt _ (by have := HU.out; omega)) nY1.out.2.2.2
                omega
              have hfin := Lib.hid (div_final hquot (by have := HU.out; omega) (q := q2) (g := g2) (by omega) (by omega) hQ hQ2)
              go_wp2
              go_ret2
              exact ⟨⟨_, ret_twou hfin.out⟩, rfl⟩
            · have bs2b : s2 ≤ 4294967295 := by omega
              go_wp2
              go_round
              case rel => exact ⟨g2, s2, rfl, rfl, bg2, by omega, bs2, bs2b, hG4⟩
              case measure => exact hless2.out
          · by_cases k2 : 4294967296 * s + d0x < P2
            · have hc2 := Lib.hid (Or.inr k2 : 4294967296 ≤ g ∨ 4294967296 * s + d0x < P2)
              have hst2 := Lib.hid (kn_step (y1 := y1) hVlt.out nY1.out.2.2.2 hG3 bs Hy1.out Hd0.out hP2 hc2.out)
              have hg1 := hst2.out.2.1
              obtain ⟨g2, hg2⟩ : ∃ g2 : Int, g - 1 = g2 := ⟨_, rfl⟩
              obtain ⟨s2, hs2⟩ : ∃ s2 : Int, s + y1 = s2 := ⟨_, rfl⟩
              have bg2 : 0 ≤ g2 := by omega
              have bg2b : g2 ≤ 4294967296 := by have := hst2.out.2.2; omega
              have bs2 : 0 ≤ s2 := by omega
              have hG4 : Hid (Guess 4294967296 VN D0 Y1 Y0 g2.toNat s2.toNat) := by rw [← hg2, ← hs2]; exact hst2.out.1
              have hless2 : Hid (g2.toNat < g.toNat) := by show _ < _; omega
              by_cases k3 : 4294967296 ≤ s2
              · have hQ2 := kn_break (by have := hVlt.out; omega) nY1.out.2.1 hG4 bg2b k3
                rw [eY.out, HVN.out] at hQ2
                have bge : g2 ≤ 4294967295 := by
                  have a := hQ2.out
                  have b := div_lt (B := 4294967296) (u := (U * 4294967296 + D1) % Y) (d := D0) (y := Y) (Nat.mod_lt _ (by have := HU.out; omega)) nY1.out.2.2.2
                  omega
                have hfin := Lib.hid (div_final hquot (by have := HU.out; omega) (q := q2) (g := g2) (by omega) (by omega) hQ hQ2)
                go_wp2
                go_ret2
                exact ⟨⟨_, ret_twou hfin.out⟩, rfl⟩
              · have bs2b : s2 ≤ 4294967295 := by omega
                go_wp2
                go_round
                case rel => exact ⟨g2, s2, rfl, rfl, bg2, by omega, bs2, bs2b, hG4⟩
                case measure => exact hless2.out
            · have hQ2 := kn_stop (by have := hVlt.out; omega) hG3 bs Hd0.out hP2 k2
              rw [eY.out, HVN.out] at hQ2
              have bge : g ≤ 4294967295 := by
                have a := hQ2.out
                have b := div_lt (B := 4294967296) (u := (U * 4294967296 + D1) % Y) (d := D0) (y := Y) (Nat.mod_lt _ (by have := HU.out; omega)) nY1.out.2.2.2
                omega
              have hfin := Lib.hid (div_final hquot (by have := HU.out; omega) (q := q2) (g := g) (by omega) (by omega) hQ hQ2)
              go_wp2
              go_ret2
              exact ⟨⟨_, ret_twou hfin.out⟩, rfl⟩
      · have br2b : r2 ≤ 4294967295 := by omega
        go_wp2
        go_round
        case rel => exact ⟨q2, r2, rfl, rfl, bq2, by omega, br2, br2b, hG2⟩
        case measure => exact hless.out
    · by_cases c2 : 4294967296 * r + d1 < P
      · have hc := Lib.hid (Or.inr c2 : 4294967296 ≤ q ∨ 4294967296 * r + d1 < P)
        have hst := Lib.hid (kn_step (y1 := y1) (by rw [eY.out]; exact HU.out) nY1.out.2.2.1 hG br Hy1.out Hd1.out hP hc.out)
        have hq1 := hst.out.2.1
        obtain ⟨q2, hq2⟩ : ∃ q2 : Int, q - 1 = q2 := ⟨_, rfl⟩
        obtain ⟨r2, hr2⟩ : ∃ r2 : Int, r + y1 = r2 := ⟨_, rfl⟩
        have bq2 : 0 ≤ q2 := by omega
        have bq2b : q2 ≤ 4294967296 := by have := hst.out.2.2; omega
        have br2 : 0 ≤ r2 := by omega
        have hG2 : Hid (Guess 4294967296 U D1 Y1 Y0 q2.toNat r2.toNat) := by rw [← hq2, ← hr2]; exact hst.out.1
        have hless : Hid (q2.toNat < q.toNat) := by show _ < _; omega
        by_cases c3 : 4294967296 ≤ r2
        · have hQ := kn_break (by rw [eY.out]; have := HU.out; omega) nY1.out.2.1 hG2 bq2b c3
          rw [eY.out] at hQ
          have hYb : Y < 18446744073709551616 := by have := HYI.out; omega
          obtain ⟨a1, b1, V, T1, ba1, ba1b, T2, T3, hV, bV, bVb, bqe⟩ := rem_rule (q := q2) (by omega) hQ HUI.out Hd1.out HYI.out HU.out hYb nY1.out.2.2.1
          obtain ⟨VN, hVN⟩ : ∃ VN : Nat, VN = (U * 4294967296 + D1) % Y := ⟨_, rfl⟩
          have hVlt : Hid (VN < Y1 * 4294967296 + Y0) := by
            show _ < _
            rw [eY.out, hVN]
            exact Nat.mod_lt _ (by have := HU.out; omega)
          rw [← hVN] at hV
          have gs2 := Lib.hid (guess_start (B := 4294967296) (u := VN) (d := D0) (y1 := Y1) (y0 := Y0) hVlt.out nY1.out.2.2.2 nY1.out.1 nY1.out.2.1)
          obtain ⟨g0, s0, S7, S8, S9, bg0, bg0b, bs0, bs0b, hg0⟩ := first_guess gs2.out hV.out Hy1.out (by omega) (by omega)
          have HG1 := Lib.hid hg0
          have HVN := Lib.hid hVN
          have HYb := Lib.hid hYb
          clear hg0 gs2 hVN hYb
          go_wp2
          clear RP hP
          go_loop [16, 18] (fun b a => KInv VN D0 Y1 Y0 a b) (fun _ a => (intOf a).toNat)
          case atStart => exact ⟨g0, s0, by first | rfl | rw [S7], rfl, bg0, bg0b, bs0, bs0b, HG1.out⟩
          case round =>
            try (rename w = w => hww; clear hww)
            clear S7 S8 S9 T1 T2 T3
            obtain ⟨g, s, rfl, rfl, bg, bgb, bs, bsb, hG3⟩ := hrel
            obtain ⟨P2, RP2, hP2⟩ := mul_rule bg bgb Hy0.out nY1.out.2.1
            by_cases k1 : 4294967296 ≤ g
            · have hc2 := Lib.hid (Or.inl k1 : 4294967296 ≤ g ∨ 4294967296 * s + d0x < P2)
              have hst2 := Lib.hid (kn_step (y1 := y1) hVlt.out nY1.out.2.2.2 hG3 bs Hy1.out Hd0.out hP2 hc2.out)
              have hg1 := hst2.out.2.1
              obtain ⟨g2, hg2⟩ : ∃ g2 : Int, g - 1 = g2 := ⟨_, rfl⟩
              obtain ⟨s2, hs2⟩ : ∃ s2 : Int, s + y1 = s2 := ⟨_, rfl⟩
              have bg2 : 0 ≤ g2 := by omega
              have bg2b : g2 ≤ 4294967296 := by have := hst2.out.2.2; omega
              have bs2 : 0 ≤ s2 := by omega
              have hG4 : Hid (Guess 4294967296 VN D0 Y1 Y0 g2.toNat s2.toNat) := by rw [← hg2, ← hs2]; exact hst2.out.1
              have hless2 : Hid (g2.toNat < g.toNat) := by show _ < _; omega
              by_cases k3 : 4294967296 ≤ s2
              · have hQ2 := kn_break (by have := hVlt.out; omega) nY1.out.2.1 hG4 bg2b k3
                rw [eY.out, HVN.out] at hQ2
                have bge : g2 ≤ 4294967295 := by
                  have a := hQ2.out
                  have b := div_lt (B := 4294967296) (u := (U * 4294967296 + D1) % Y) (d := D0) (y := Y) (Nat.mod_lt _ (by have := HU.out; omega)) nY1.out.2.2.2
                  omega
                have hfin := Lib.hid (div_final hquot (by have := HU.out; omega) (q := q2) (g := g2) (by omega) (by omega) hQ hQ2)
                go_wp2
                go_ret2
                exact ⟨⟨_, ret_twou hfin.out⟩, rfl⟩
              · have bs2b : s2 ≤ 4294967295 := by omega
                go_wp2
                go_round
                case rel => exact ⟨g2, s2, rfl, rfl, bg2, by omega, bs2, bs2b, hG4⟩
                case measure => exact hless2.out
            · by_cases k2 : 4294967296 * s + d0x < P2
              · have hc2 := Lib.hid (Or.inr k2 : 4294967296 ≤ g ∨ 4294967296 * s + d0x < P2)
                have hst2 := Lib.hid (kn_step (y1 := y1) hVlt.out nY1.out.2.2.2 hG3 bs Hy1.out Hd0.out hP2 hc2.out)
                have hg1 := hst2.out.2.1
                obtain ⟨g2, hg2⟩ : ∃ g2 : Int, g - 1 = g2 := ⟨_, rfl⟩
                obtain ⟨s2, hs2⟩ : ∃ s2 : Int, s + y1 = s2 := ⟨_, rfl⟩
                have bg2 : 0 ≤ g2 := by omega
                have bg2b : g2 ≤ 4294967296 := by have := hst2.out.2.2; omega
                have bs2 : 0 ≤ s2 := by omega
                have hG4 : Hid (Guess 4294967296 VN D0 Y1 Y0 g2.toNat s2.toNat) := by rw [← hg2, ← hs2]; exact hst2.out.1
                have hless2 : Hid (g2.toNat < g.toNat) := by show _ < _; omega
                by_cases k3 : 4294967296 ≤ s2
                · have hQ2 := kn_break (by have := hVlt.out; omega) nY1.out.2.1 hG4 bg2b k3
                  rw [eY.out, HVN.out] at hQ2
                  have bge : g2 ≤ 4294967295 := by
                    have a := hQ2.out
                    have b := div_lt (B := 4294967296) (u := (U * 4294967296 + D1) % Y) (d := D0) (y := Y) (Nat.mod_lt _ (by have := HU.out; omega)) nY1.out.2.2.2
                    omega
                  have hfin := Lib.hid (div_final hquot (by have := HU.out; omega) (q := q2) (g := g2) (by omega) (by omega) hQ hQ2)
                  go_wp2
                  go_ret2
                  exact ⟨⟨_, ret_twou hfin.out⟩, rfl⟩
                · have bs2b : s2 ≤ 4294967295 := by omega
                  go_wp2
                  go_round
                  case rel => exact ⟨g2, s2, rfl, rfl, bg2, by omega, bs2, bs2b, hG4⟩
                  case measure => exact hless2.out
              · have hQ2 := kn_stop (by have := hVlt.out; omega) hG3 bs Hd0.out hP2 k2
                rw [eY.out, HVN.out] at hQ2
                have bge : g ≤ 4294967295 := by
                  have a := hQ2.out
                  have b := div_lt (B := 4294967296) (u := (U * 4294967296 + D1) % Y) (d := D0) (y := Y) (Nat.mod_lt _ (by have := HU.out; omega)) nY1.out.2.2.2
                  omega
                have hfin := Lib.hid (div_final hquot (by have := HU.out; omega) (q := q2) (g := g) (by omega) (by omega) hQ hQ2)
                go_wp2
                go_ret2
                exact ⟨⟨_, ret_twou hfin.out⟩, rfl⟩
        · have br2b : r2 ≤ 4294967295 := by omega
          go_wp2
          go_round
          case rel => exact ⟨q2, r2, rfl, rfl, bq2, by omega, br2, br2b, hG2⟩
          case measure => exact hless.out
      · have hQ := kn_stop (by rw [eY.out]; have := HU.out; omega) hG br Hd1.out hP c2
        rw [eY.out] at hQ
        have hYb : Y < 18446744073709551616 := by have := HYI.out; omega
        obtain ⟨a1, b1, V, T1, ba1, ba1b, T2, T3, hV, bV, bVb, bqe⟩ := rem_rule (q := q) (by omega) hQ HUI.out Hd1.out HYI.out HU.out hYb nY1.out.2.2.1
        obtain ⟨VN, hVN⟩ : ∃ VN : Nat, VN = (U * 4294967296 + D1) % Y := ⟨_, rfl⟩
        have hVlt : Hid (VN < Y1 * 4294967296 + Y0) := by
          show _ < _
          rw [eY.out, hVN]
          exact Nat.mod_lt _ (by have := HU.out; omega)
        rw [← hVN] at hV
        have gs2 := Lib.hid (guess_start (B := 4294967296) (u := VN) (d := D0) (y1 := Y1) (y0 := Y0) hVlt.out nY1.out.2.2.2 nY1.out.1 nY1.out.2.1)
        obtain ⟨g0, s0, S7, S8, S9, bg0, bg0b, bs0, bs0b, hg0⟩ := first_guess gs2.out hV.out Hy1.out (by omega) (by omega)
        have HG1 := Lib.hid hg0
        have HVN := Lib.hid hVN
        have HYb := Lib.hid hYb
        clear hg0 gs2 hVN hYb
        go_wp2
        clear RP hP
        go_loop [16, 18] (fun b a => KInv VN D0 Y1 Y0 a b) (fun _ a => (intOf a).toNat)
        case atStart => exact ⟨g0, s0, by first | rfl | rw [S7], rfl, bg0, bg0b, bs0, bs0b, HG1.out⟩
        case round =>
          try (rename w = w => hww; clear hww)
          clear S7 S8 S9 T1 T2 T3
          obtain ⟨g, s, rfl, rfl, bg, bgb, bs, bsb, hG3⟩ := hrel
          obtain ⟨P2, RP2, hP2⟩ := mul_rule bg bgb Hy0.out nY1.out.2.1
          by_cases k1 : 4294967296 ≤ g
          · have hc2 := Lib.hid (Or.inl k1 : 4294967296 ≤ g ∨ 4294967296 * s + d0x < P2)
            have hst2 := Lib.hid (kn_step (y1 := y1) hVlt.out nY1.out.2.2.2 hG3 bs Hy1.out Hd0.out hP2 hc2.out)
            have hg1 := hst2.out.2.1
            obtain ⟨g2, hg2⟩ : ∃ g2 : Int, g - 1 = g2 := ⟨_, rfl⟩
            obtain ⟨s2, hs2⟩ : ∃ s2 : Int, s + y1 = s2 := ⟨_, rfl⟩
            have bg2 : 0 ≤ g2 := by omega
            have bg2b : g2 ≤ 4294967296 := by have := hst2.out.2.2; omega
            have bs2 : 0 ≤ s2 := by omega
            have hG4 : Hid (Guess 4294967296 VN D0 Y1 Y0 g2.toNat s2.toNat) := by rw [← hg2, ← hs2]; exact hst2.out.1
            have hless2 : Hid (g2.toNat < g.toNat) := by show _ < _; omega
            by_cases k3 : 4294967296 ≤ s2
            · have hQ2 := kn_break (by have := hVlt.out; omega) nY1.out.2.1 hG4 bg2b k3
              rw [eY.out, HVN.out] at hQ2
              have bge : g2 ≤ 4294967295 := by
                have a := hQ2.out
                have b := div_lt (B := 4294967296) (u := (U * 4294967296 + D1) % Y) (d := D0) (y := Y) (Nat.mod_lt _ (by have := HU.out; omega)) nY1.out.2.2.2
                omega
              have hfin := Lib.hid (div_final hquot (by have := HU.out; omega) (q := q) (g := g2) (by omega) (by omega) hQ hQ2)
              go_wp2
              go_ret2
              exact ⟨⟨_, ret_twou hfin.out⟩, rfl⟩
            · have bs2b : s2 ≤ 4294967295 := by omega
              go_wp2
              go_round
              case rel => exact ⟨g2, s2, rfl, rfl, bg2, by omega, bs2, bs2b, hG4⟩
              case measure => exact hless2.out
          · by_cases k2 : 4294967296 * s + d0x < P2
            · have hc2 := Lib.hid (Or.inr k2 : 4294967296 ≤ g ∨ 4294967296 * s + d0x < P2)
              have hst2 := Lib.hid (kn_step (y1 := y1) hVlt.out nY1.out.2.2.2 hG3 bs Hy1.out Hd0.out hP2 hc2.out)
              have hg1 := hst2.out.2.1
              obtain ⟨g2, hg2⟩ : ∃ g2 : Int, g - 1 = g2 := ⟨_, rfl⟩
              obtain ⟨s2, hs2⟩ : ∃ s2 : Int, s + y1 = s2 := ⟨_, rfl⟩
              have bg2 : 0 ≤ g2 := by omega
              have bg2b : g2 ≤ 4294967296 := by have := hst2.out.2.2; omega
              have bs2 : 0 ≤ s2 := by omega
              have hG4 : Hid (Guess 4294967296 VN D0 Y1 Y0 g2.toNat s2.toNat) := by rw [← hg2, ← hs2]; exact hst2.out.1
              have hless2 : Hid (g2.toNat < g.toNat) := by show _ < _; omega
              by_cases k3 : 4294967296 ≤ s2
              · have hQ2 := kn_break (by have := hVlt.out; omega) nY1.out.2.1 hG4 bg2b k3
                rw [eY.out, HVN.out] at hQ2
                have bge : g2 ≤ 4294967295 := by
                  have a := hQ2.out
                  have b := div_lt (B := 4294967296) (u := (U * 4294967296 + D1) % Y) (d := D0) (y := Y) (Nat.mod_lt _ (by have := HU.out; omega)) nY1.out.2.2.2
                  omega
                have hfin := Lib.hid (div_final hquot (by have := HU.out; omega) (q := q) (g := g2) (by omega) (by omega) hQ hQ2)
                go_wp2
                go_ret2
                exact ⟨⟨_, ret_twou hfin.out⟩, rfl⟩
              · have bs2b : s2 ≤ 4294967295 := by omega
                go_wp2
                go_round
                case rel => exact ⟨g2, s2, rfl, rfl, bg2, by omega, bs2, bs2b, hG4⟩
                case measure => exact hless2.out
            · have hQ2 := kn_stop (by have := hVlt.out; omega) hG3 bs Hd0.out hP2 k2
              rw [eY.out, HVN.out] at hQ2
              have bge : g ≤ 4294967295 := by
                have a := hQ2.out
                have b := div_lt (B := 4294967296) (u := (U * 4294967296 + D1) % Y) (d := D0) (y := Y) (Nat.mod_lt _ (by have := HU.out; omega)) nY1.out.2.2.2
                omega
              have hfin := Lib.hid (div_final hquot (by have := HU.out; omega) (q := q) (g := g) (by omega) (by omega) hQ hQ2)
              go_wp2
              go_ret2
              exact ⟨⟨_, ret_twou hfin.out⟩, rfl⟩
end Go.Proofs.Ytdiekkligpinkaa
