/- utf.first: the first character of a text, case by case (printed by mkfirst.py). -/
import Derived.Test.YtclahhkcbkpofaaDoorHFz19
import Derived.Test.YtclahhkcbkpofaaDoorHFz9
namespace Go.Proofs.YtclahhkcbkpofaaDoor
open Go.RowKit
open Sp
set_option linter.unusedVariables false
theorem u8_hi : ∀ b : Fin 256, bits .and .u8 ((b.val : Nat) : Int) 192 = ((b.val / 64 * 64 : Nat) : Int) := by decide +kernel
theorem u8_lo : ∀ b : Fin 256, bits .and .u8 ((b.val : Nat) : Int) 63 = ((b.val % 64 : Nat) : Int) := by decide +kernel
theorem lead_2 : ∀ b : Fin 256, bits .and .i64 ((b.val : Nat) : Int) 31 = ((b.val % 32 : Nat) : Int) := by decide +kernel
theorem lead_3 : ∀ b : Fin 256, bits .and .i64 ((b.val : Nat) : Int) 15 = ((b.val % 16 : Nat) : Int) := by decide +kernel
theorem lead_4 : ∀ b : Fin 256, bits .and .i64 ((b.val : Nat) : Int) 7 = ((b.val % 8 : Nat) : Int) := by decide +kernel
theorem byte_0 (a : UInt8) (r : List UInt8) (h : 0 < (⟨(a :: r).toArray⟩ : ByteArray).size) : (((⟨(a :: r).toArray⟩ : ByteArray)[0]'h).toNat : Int) = (a.toNat : Int) := rfl
theorem byte_1 (a b : UInt8) (r : List UInt8) (h : 1 < (⟨(a :: b :: r).toArray⟩ : ByteArray).size) : (((⟨(a :: b :: r).toArray⟩ : ByteArray)[1]'h).toNat : Int) = (b.toNat : Int) := rfl
theorem byte_2 (a b c : UInt8) (r : List UInt8) (h : 2 < (⟨(a :: b :: c :: r).toArray⟩ : ByteArray).size) : (((⟨(a :: b :: c :: r).toArray⟩ : ByteArray)[2]'h).toNat : Int) = (c.toNat : Int) := rfl
theorem byte_3 (a b c d : UInt8) (r : List UInt8) (h : 3 < (⟨(a :: b :: c :: d :: r).toArray⟩ : ByteArray).size) : (((⟨(a :: b :: c :: d :: r).toArray⟩ : ByteArray)[3]'h).toNat : Int) = (d.toNat : Int) := rfl

set_option maxRecDepth 100000 in
set_option maxHeartbeats 8000000 in
theorem first_1 (w : World) (a : UInt8) (r : List UInt8) (A : Int) (ha : (a.toNat : Int) = A) (h1 : A < 128) :
    Calls Tryd.prog 77 #[.string ⟨(a :: r).toArray⟩] w fun e w' => e = .returned (.tuple #[.int .i64 A, .int .i64 1]) ∧ w' = w := by
  have hz0 := byte_0 a (r) (by show 0 < (a :: r).toArray.size; simp)
  have h0 : 0 ≤ A := by omega
  rw [ha] at hz0
  clear ha
  go_enter Tryd.func77, Tryd.ntmps77
  go_wp2_with fail
  go_ret2
  exact ⟨by simp, rfl⟩

set_option maxRecDepth 100000 in
set_option maxHeartbeats 8000000 in
theorem first_mid (w : World) (a : UInt8) (r : List UInt8) (A : Int) (ha : (a.toNat : Int) = A) (h1 : 128 ≤ A) (h2 : A < 192) :
    Calls Tryd.prog 77 #[.string ⟨(a :: r).toArray⟩] w fun e w' => e = .returned (.tuple #[.int .i64 0, .int .i64 0]) ∧ w' = w := by
  have hz0 := byte_0 a (r) (by show 0 < (a :: r).toArray.size; simp)
  rw [ha] at hz0
  clear ha
  go_enter Tryd.func77, Tryd.ntmps77
  go_wp2_with fail
  go_ret2
  exact ⟨by simp, rfl⟩

set_option maxRecDepth 100000 in
set_option maxHeartbeats 8000000 in
theorem first_big (w : World) (a : UInt8) (r : List UInt8) (A : Int) (ha : (a.toNat : Int) = A) (h1 : 248 ≤ A) :
    Calls Tryd.prog 77 #[.string ⟨(a :: r).toArray⟩] w fun e w' => e = .returned (.tuple #[.int .i64 0, .int .i64 0]) ∧ w' = w := by
  have hz0 := byte_0 a (r) (by show 0 < (a :: r).toArray.size; simp)
  have h255 : A ≤ 255 := by have := a.toNat_lt; omega
  rw [ha] at hz0
  clear ha
  go_enter Tryd.func77, Tryd.ntmps77
  go_wp2_with fail
  go_ret2
  exact ⟨by simp, rfl⟩

set_option maxRecDepth 100000 in
set_option maxHeartbeats 8000000 in
theorem first_2_short1 (w : World) (a : UInt8) (A : Int) (ha : (a.toNat : Int) = A) (h1 : 192 ≤ A) (h2 : A < 224) :
    Calls Tryd.prog 77 #[.string ⟨([a]).toArray⟩] w fun e w' => e = .returned (.tuple #[.int .i64 0, .int .i64 0]) ∧ w' = w := by
  have hz0 := byte_0 a [] (by show 0 < ([a]).toArray.size; simp)
  have k0 := lead_2 ⟨a.toNat, a.toNat_lt⟩
  simp only at k0
  rw [show ((a.toNat % 32 : Nat) : Int) = A - 192 by omega, ha] at k0
  obtain ⟨C0, hC0⟩ : ∃ z, A - 192 = z := ⟨_, rfl⟩
  rw [hC0] at k0
  rw [ha] at hz0
  clear ha
  go_enter Tryd.func77, Tryd.ntmps77
  go_wp2_with fail
  go_ret2
  exact ⟨by simp, rfl⟩

set_option maxRecDepth 100000 in
set_option maxHeartbeats 8000000 in
theorem first_2_bad1 (w : World) (a b : UInt8) (r : List UInt8) (A B : Int) (ha : (a.toNat : Int) = A) (hb : (b.toNat : Int) = B) (h1 : 192 ≤ A) (h2 : A < 224)  (gz : ¬ (128 ≤ B ∧ B ≤ 191)) :
    Calls Tryd.prog 77 #[.string ⟨(a :: b :: r).toArray⟩] w fun e w' => e = .returned (.tuple #[.int .i64 0, .int .i64 0]) ∧ w' = w := by
  have hz0 := byte_0 a (b :: r) (by show 0 < (a :: b :: r).toArray.size; simp)
  have hz1 := byte_1 a b (r) (by show 1 < (a :: b :: r).toArray.size; simp)
  have k0 := lead_2 ⟨a.toNat, a.toNat_lt⟩
  simp only at k0
  rw [show ((a.toNat % 32 : Nat) : Int) = A - 192 by omega, ha] at k0
  obtain ⟨C0, hC0⟩ : ∃ z, A - 192 = z := ⟨_, rfl⟩
  rw [hC0] at k0
  have p0 := u8_hi ⟨b.toNat, b.toNat_lt⟩
  simp only at p0
  rw [hb] at p0
  obtain ⟨Z, hZ⟩ : ∃ z, ((b.toNat / 64 * 64 : Nat) : Int) = z := ⟨_, rfl⟩
  rw [hZ] at p0
  have hne : ¬ (Z = 128) := by omega
  have hnb : (Z == 128) = false := by simp; exact hne
  rw [ha] at hz0
  rw [hb] at hz1
  clear ha hb
  go_enter Tryd.func77, Tryd.ntmps77
  go_wp2_with fail
  refine wp_loop_rounds 1 ?_
  rw [rounds_succ]
  go_wp2_with fail
  go_ret2
  exact ⟨by simp, rfl⟩

set_option maxRecDepth 100000 in
set_option maxHeartbeats 8000000 in
theorem first_2_low (w : World) (a b : UInt8) (r : List UInt8) (A B : Int) (ha : (a.toNat : Int) = A) (hb : (b.toNat : Int) = B) (h1 : 192 ≤ A) (h2 : A < 224) (gb : 128 ≤ B ∧ B ≤ 191) (V : Int) (hV : ((A - 192) * 64 + (B - 128)) = V) (hl : V < 128) :
    Calls Tryd.prog 77 #[.string ⟨(a :: b :: r).toArray⟩] w fun e w' => e = .returned (.tuple #[.int .i64 0, .int .i64 0]) ∧ w' = w := by
  have hz0 := byte_0 a (b :: r) (by show 0 < (a :: b :: r).toArray.size; simp)
  have hz1 := byte_1 a b (r) (by show 1 < (a :: b :: r).toArray.size; simp)
  have k0 := lead_2 ⟨a.toNat, a.toNat_lt⟩
  simp only at k0
  rw [show ((a.toNat % 32 : Nat) : Int) = A - 192 by omega, ha] at k0
  obtain ⟨C0, hC0⟩ : ∃ z, A - 192 = z := ⟨_, rfl⟩
  rw [hC0] at k0
  have p0 := u8_hi ⟨b.toNat, b.toNat_lt⟩
  have q0 := u8_lo ⟨b.toNat, b.toNat_lt⟩
  simp only at p0 q0
  rw [show ((b.toNat / 64 * 64 : Nat) : Int) = 128 by omega, hb] at p0
  rw [show ((b.toNat % 64 : Nat) : Int) = B - 128 by omega, hb] at q0
  obtain ⟨C1, hC1⟩ : ∃ z, C0 * 64 + (B - 128) = z := ⟨_, rfl⟩
  have r0 : bits .or .i64 (C0 * 64) (B - 128) = C1 := by rw [or_join 6 _ _ (by omega) (by omega) (by omega) (by omega) (by omega) (by omega)]; exact hC1
  have s0 : IntKind.i64.wrap (C0 * 64) = C0 * 64 := by rw [IntKind.wrap_i64]; omega
  have hv : C1 = V := by omega
  rw [hv] at r0
  clear hv hC1
  rw [ha] at hz0
  rw [hb] at hz1
  clear ha hb
  go_enter Tryd.func77, Tryd.ntmps77
  go_wp2_with fail
  refine wp_loop_rounds 2 ?_
  rw [rounds_succ]
  go_wp2_with fail
  rw [rounds_succ]
  go_wp2_with fail
  go_ret2
  exact ⟨by simp, rfl⟩

set_option maxRecDepth 100000 in
set_option maxHeartbeats 8000000 in
theorem first_2_ok (w : World) (a b : UInt8) (r : List UInt8) (A B : Int) (ha : (a.toNat : Int) = A) (hb : (b.toNat : Int) = B) (h1 : 192 ≤ A) (h2 : A < 224) (gb : 128 ≤ B ∧ B ≤ 191) (V : Int) (hV : ((A - 192) * 64 + (B - 128)) = V) (hl : 128 ≤ V) (hw : wholeB V = true) :
    Calls Tryd.prog 77 #[.string ⟨(a :: b :: r).toArray⟩] w fun e w' => e = .returned (.tuple #[.int .i64 V, .int .i64 2]) ∧ w' = w := by
  have hz0 := byte_0 a (b :: r) (by show 0 < (a :: b :: r).toArray.size; simp)
  have hz1 := byte_1 a b (r) (by show 1 < (a :: b :: r).toArray.size; simp)
  have k0 := lead_2 ⟨a.toNat, a.toNat_lt⟩
  simp only at k0
  rw [show ((a.toNat % 32 : Nat) : Int) = A - 192 by omega, ha] at k0
  obtain ⟨C0, hC0⟩ : ∃ z, A - 192 = z := ⟨_, rfl⟩
  rw [hC0] at k0
  have p0 := u8_hi ⟨b.toNat, b.toNat_lt⟩
  have q0 := u8_lo ⟨b.toNat, b.toNat_lt⟩
  simp only at p0 q0
  rw [show ((b.toNat / 64 * 64 : Nat) : Int) = 128 by omega, hb] at p0
  rw [show ((b.toNat % 64 : Nat) : Int) = B - 128 by omega, hb] at q0
  obtain ⟨C1, hC1⟩ : ∃ z, C0 * 64 + (B - 128) = z := ⟨_, rfl⟩
  have r0 : bits .or .i64 (C0 * 64) (B - 128) = C1 := by rw [or_join 6 _ _ (by omega) (by omega) (by omega) (by omega) (by omega) (by omega)]; exact hC1
  have s0 : IntKind.i64.wrap (C0 * 64) = C0 * 64 := by rw [IntKind.wrap_i64]; omega
  have hv : C1 = V := by omega
  rw [hv] at r0
  clear hv hC1
  have HW := Lib.hid (whole_any V)
  rw [hw] at HW
  rw [ha] at hz0
  rw [hb] at hz1
  clear ha hb
  go_enter Tryd.func77, Tryd.ntmps77
  go_wp2_with fail
  refine wp_loop_rounds 2 ?_
  rw [rounds_succ]
  go_wp2_with fail
  rw [rounds_succ]
  go_wp2_with fail
  refine (HW.out _).mono ?_
  rintro e w1 ⟨rfl, rfl⟩
  go_wp2_with fail
  go_ret2
  exact ⟨by simp, rfl⟩

end Go.Proofs.YtclahhkcbkpofaaDoor
/- utf.first, case by case (printed by mkfirst.py). -/
namespace Go.Proofs.YtclahhkcbkpofaaDoor
open Go.RowKit
open Sp
set_option linter.unusedVariables false
set_option maxRecDepth 100000 in
set_option maxHeartbeats 8000000 in
theorem first_3_short1 (w : World) (a : UInt8) (A : Int) (ha : (a.toNat : Int) = A) (h1 : 224 ≤ A) (h2 : A < 240) :
    Calls Tryd.prog 77 #[.string ⟨([a]).toArray⟩] w fun e w' => e = .returned (.tuple #[.int .i64 0, .int .i64 0]) ∧ w' = w := by
  have hz0 := byte_0 a [] (by show 0 < ([a]).toArray.size; simp)
  have k0 := lead_3 ⟨a.toNat, a.toNat_lt⟩
  simp only at k0
  rw [show ((a.toNat % 16 : Nat) : Int) = A - 224 by omega, ha] at k0
  obtain ⟨C0, hC0⟩ : ∃ z, A - 224 = z := ⟨_, rfl⟩
  rw [hC0] at k0
  rw [ha] at hz0
  clear ha
  go_enter Tryd.func77, Tryd.ntmps77
  go_wp2_with fail
  go_ret2
  exact ⟨by simp, rfl⟩

set_option maxRecDepth 100000 in
set_option maxHeartbeats 8000000 in
theorem first_3_short2 (w : World) (a b : UInt8) (A B : Int) (ha : (a.toNat : Int) = A) (hb : (b.toNat : Int) = B) (h1 : 224 ≤ A) (h2 : A < 240) :
    Calls Tryd.prog 77 #[.string ⟨([a, b]).toArray⟩] w fun e w' => e = .returned (.tuple #[.int .i64 0, .int .i64 0]) ∧ w' = w := by
  have hz0 := byte_0 a [b] (by show 0 < ([a, b]).toArray.size; simp)
  have hz1 := byte_1 a b [] (by show 1 < ([a, b]).toArray.size; simp)
  have k0 := lead_3 ⟨a.toNat, a.toNat_lt⟩
  simp only at k0
  rw [show ((a.toNat % 16 : Nat) : Int) = A - 224 by omega, ha] at k0
  obtain ⟨C0, hC0⟩ : ∃ z, A - 224 = z := ⟨_, rfl⟩
  rw [hC0] at k0
  rw [ha] at hz0
  rw [hb] at hz1
  clear ha hb
  go_enter Tryd.func77, Tryd.ntmps77
  go_wp2_with fail
  go_ret2
  exact ⟨by simp, rfl⟩

set_option maxRecDepth 100000 in
set_option maxHeartbeats 8000000 in
theorem first_3_bad1 (w : World) (a b c : UInt8) (r : List UInt8) (A B C : Int) (ha : (a.toNat : Int) = A) (hb : (b.toNat : Int) = B) (hc : (c.toNat : Int) = C) (h1 : 224 ≤ A) (h2 : A < 240)  (gz : ¬ (128 ≤ B ∧ B ≤ 191)) :
    Calls Tryd.prog 77 #[.string ⟨(a :: b :: c :: r).toArray⟩] w fun e w' => e = .returned (.tuple #[.int .i64 0, .int .i64 0]) ∧ w' = w := by
  have hz0 := byte_0 a (b :: c :: r) (by show 0 < (a :: b :: c :: r).toArray.size; simp)
  have hz1 := byte_1 a b (c :: r) (by show 1 < (a :: b :: c :: r).toArray.size; simp)
  have hz2 := byte_2 a b c (r) (by show 2 < (a :: b :: c :: r).toArray.size; simp)
  have k0 := lead_3 ⟨a.toNat, a.toNat_lt⟩
  simp only at k0
  rw [show ((a.toNat % 16 : Nat) : Int) = A - 224 by omega, ha] at k0
  obtain ⟨C0, hC0⟩ : ∃ z, A - 224 = z := ⟨_, rfl⟩
  rw [hC0] at k0
  have p0 := u8_hi ⟨b.toNat, b.toNat_lt⟩
  simp only at p0
  rw [hb] at p0
  obtain ⟨Z, hZ⟩ : ∃ z, ((b.toNat / 64 * 64 : Nat) : Int) = z := ⟨_, rfl⟩
  rw [hZ] at p0
  have hne : ¬ (Z = 128) := by omega
  have hnb : (Z == 128) = false := by simp; exact hne
  rw [ha] at hz0
  rw [hb] at hz1
  rw [hc] at hz2
  clear ha hb hc
  go_enter Tryd.func77, Tryd.ntmps77
  go_wp2_with fail
  refine wp_loop_rounds 1 ?_
  rw [rounds_succ]
  go_wp2_with fail
  go_ret2
  exact ⟨by simp, rfl⟩

set_option maxRecDepth 100000 in
set_option maxHeartbeats 8000000 in
theorem first_3_bad2 (w : World) (a b c : UInt8) (r : List UInt8) (A B C : Int) (ha : (a.toNat : Int) = A) (hb : (b.toNat : Int) = B) (hc : (c.toNat : Int) = C) (h1 : 224 ≤ A) (h2 : A < 240) (gb : 128 ≤ B ∧ B ≤ 191) (gz : ¬ (128 ≤ C ∧ C ≤ 191)) :
    Calls Tryd.prog 77 #[.string ⟨(a :: b :: c :: r).toArray⟩] w fun e w' => e = .returned (.tuple #[.int .i64 0, .int .i64 0]) ∧ w' = w := by
  have hz0 := byte_0 a (b :: c :: r) (by show 0 < (a :: b :: c :: r).toArray.size; simp)
  have hz1 := byte_1 a b (c :: r) (by show 1 < (a :: b :: c :: r).toArray.size; simp)
  have hz2 := byte_2 a b c (r) (by show 2 < (a :: b :: c :: r).toArray.size; simp)
  have k0 := lead_3 ⟨a.toNat, a.toNat_lt⟩
  simp only at k0
  rw [show ((a.toNat % 16 : Nat) : Int) = A - 224 by omega, ha] at k0
  obtain ⟨C0, hC0⟩ : ∃ z, A - 224 = z := ⟨_, rfl⟩
  rw [hC0] at k0
  have p0 := u8_hi ⟨b.toNat, b.toNat_lt⟩
  have q0 := u8_lo ⟨b.toNat, b.toNat_lt⟩
  simp only at p0 q0
  rw [show ((b.toNat / 64 * 64 : Nat) : Int) = 128 by omega, hb] at p0
  rw [show ((b.toNat % 64 : Nat) : Int) = B - 128 by omega, hb] at q0
  obtain ⟨C1, hC1⟩ : ∃ z, C0 * 64 + (B - 128) = z := ⟨_, rfl⟩
  have r0 : bits .or .i64 (C0 * 64) (B - 128) = C1 := by rw [or_join 6 _ _ (by omega) (by omega) (by omega) (by omega) (by omega) (by omega)]; exact hC1
  have s0 : IntKind.i64.wrap (C0 * 64) = C0 * 64 := by rw [IntKind.wrap_i64]; omega
  have p1 := u8_hi ⟨c.toNat, c.toNat_lt⟩
  simp only at p1
  rw [hc] at p1
  obtain ⟨Z, hZ⟩ : ∃ z, ((c.toNat / 64 * 64 : Nat) : Int) = z := ⟨_, rfl⟩
  rw [hZ] at p1
  have hne : ¬ (Z = 128) := by omega
  have hnb : (Z == 128) = false := by simp; exact hne
  rw [ha] at hz0
  rw [hb] at hz1
  rw [hc] at hz2
  clear ha hb hc
  go_enter Tryd.func77, Tryd.ntmps77
  go_wp2_with fail
  refine wp_loop_rounds 2 ?_
  rw [rounds_succ]
  go_wp2_with fail
  rw [rounds_succ]
  go_wp2_with fail
  go_ret2
  exact ⟨by simp, rfl⟩

set_option maxRecDepth 100000 in
set_option maxHeartbeats 8000000 in
theorem first_3_low (w : World) (a b c : UInt8) (r : List UInt8) (A B C : Int) (ha : (a.toNat : Int) = A) (hb : (b.toNat : Int) = B) (hc : (c.toNat : Int) = C) (h1 : 224 ≤ A) (h2 : A < 240) (gb : 128 ≤ B ∧ B ≤ 191) (gc : 128 ≤ C ∧ C ≤ 191) (V : Int) (hV : (((A - 224) * 64 + (B - 128)) * 64 + (C - 128)) = V) (hl : V < 2048) :
    Calls Tryd.prog 77 #[.string ⟨(a :: b :: c :: r).toArray⟩] w fun e w' => e = .returned (.tuple #[.int .i64 0, .int .i64 0]) ∧ w' = w := by
  have hz0 := byte_0 a (b :: c :: r) (by show 0 < (a :: b :: c :: r).toArray.size; simp)
  have hz1 := byte_1 a b (c :: r) (by show 1 < (a :: b :: c :: r).toArray.size; simp)
  have hz2 := byte_2 a b c (r) (by show 2 < (a :: b :: c :: r).toArray.size; simp)
  have k0 := lead_3 ⟨a.toNat, a.toNat_lt⟩
  simp only at k0
  rw [show ((a.toNat % 16 : Nat) : Int) = A - 224 by omega, ha] at k0
  obtain ⟨C0, hC0⟩ : ∃ z, A - 224 = z := ⟨_, rfl⟩
  rw [hC0] at k0
  have p0 := u8_hi ⟨b.toNat, b.toNat_lt⟩
  have q0 := u8_lo ⟨b.toNat, b.toNat_lt⟩
  simp only at p0 q0
  rw [show ((b.toNat / 64 * 64 : Nat) : Int) = 128 by omega, hb] at p0
  rw [show ((b.toNat % 64 : Nat) : Int) = B - 128 by omega, hb] at q0
  obtain ⟨C1, hC1⟩ : ∃ z, C0 * 64 + (B - 128) = z := ⟨_, rfl⟩
  have r0 : bits .or .i64 (C0 * 64) (B - 128) = C1 := by rw [or_join 6 _ _ (by omega) (by omega) (by omega) (by omega) (by omega) (by omega)]; exact hC1
  have s0 : IntKind.i64.wrap (C0 * 64) = C0 * 64 := by rw [IntKind.wrap_i64]; omega
  have p1 := u8_hi ⟨c.toNat, c.toNat_lt⟩
  have q1 := u8_lo ⟨c.toNat, c.toNat_lt⟩
  simp only at p1 q1
  rw [show ((c.toNat / 64 * 64 : Nat) : Int) = 128 by omega, hc] at p1
  rw [show ((c.toNat % 64 : Nat) : Int) = C - 128 by omega, hc] at q1
  obtain ⟨C2, hC2⟩ : ∃ z, C1 * 64 + (C - 128) = z := ⟨_, rfl⟩
  have r1 : bits .or .i64 (C1 * 64) (C - 128) = C2 := by rw [or_join 6 _ _ (by omega) (by omega) (by omega) (by omega) (by omega) (by omega)]; exact hC2
  have s1 : IntKind.i64.wrap (C1 * 64) = C1 * 64 := by rw [IntKind.wrap_i64]; omega
  have hv : C2 = V := by omega
  rw [hv] at r1
  clear hv hC2
  rw [ha] at hz0
  rw [hb] at hz1
  rw [hc] at hz2
  clear ha hb hc
  go_enter Tryd.func77, Tryd.ntmps77
  go_wp2_with fail
  refine wp_loop_rounds 3 ?_
  rw [rounds_succ]
  go_wp2_with fail
  rw [rounds_succ]
  go_wp2_with fail
  rw [rounds_succ]
  go_wp2_with fail
  go_ret2
  exact ⟨by simp, rfl⟩

set_option maxRecDepth 100000 in
set_option maxHeartbeats 8000000 in
theorem first_3_half (w : World) (a b c : UInt8) (r : List UInt8) (A B C : Int) (ha : (a.toNat : Int) = A) (hb : (b.toNat : Int) = B) (hc : (c.toNat : Int) = C) (h1 : 224 ≤ A) (h2 : A < 240) (gb : 128 ≤ B ∧ B ≤ 191) (gc : 128 ≤ C ∧ C ≤ 191) (V : Int) (hV : (((A - 224) * 64 + (B - 128)) * 64 + (C - 128)) = V) (hl : 2048 ≤ V) (hw : wholeB V = false) :
    Calls Tryd.prog 77 #[.string ⟨(a :: b :: c :: r).toArray⟩] w fun e w' => e = .returned (.tuple #[.int .i64 0, .int .i64 0]) ∧ w' = w := by
  have hz0 := byte_0 a (b :: c :: r) (by show 0 < (a :: b :: c :: r).toArray.size; simp)
  have hz1 := byte_1 a b (c :: r) (by show 1 < (a :: b :: c :: r).toArray.size; simp)
  have hz2 := byte_2 a b c (r) (by show 2 < (a :: b :: c :: r).toArray.size; simp)
  have k0 := lead_3 ⟨a.toNat, a.toNat_lt⟩
  simp only at k0
  rw [show ((a.toNat % 16 : Nat) : Int) = A - 224 by omega, ha] at k0
  obtain ⟨C0, hC0⟩ : ∃ z, A - 224 = z := ⟨_, rfl⟩
  rw [hC0] at k0
  have p0 := u8_hi ⟨b.toNat, b.toNat_lt⟩
  have q0 := u8_lo ⟨b.toNat, b.toNat_lt⟩
  simp only at p0 q0
  rw [show ((b.toNat / 64 * 64 : Nat) : Int) = 128 by omega, hb] at p0
  rw [show ((b.toNat % 64 : Nat) : Int) = B - 128 by omega, hb] at q0
  obtain ⟨C1, hC1⟩ : ∃ z, C0 * 64 + (B - 128) = z := ⟨_, rfl⟩
  have r0 : bits .or .i64 (C0 * 64) (B - 128) = C1 := by rw [or_join 6 _ _ (by omega) (by omega) (by omega) (by omega) (by omega) (by omega)]; exact hC1
  have s0 : IntKind.i64.wrap (C0 * 64) = C0 * 64 := by rw [IntKind.wrap_i64]; omega
  have p1 := u8_hi ⟨c.toNat, c.toNat_lt⟩
  have q1 := u8_lo ⟨c.toNat, c.toNat_lt⟩
  simp only at p1 q1
  rw [show ((c.toNat / 64 * 64 : Nat) : Int) = 128 by omega, hc] at p1
  rw [show ((c.toNat % 64 : Nat) : Int) = C - 128 by omega, hc] at q1
  obtain ⟨C2, hC2⟩ : ∃ z, C1 * 64 + (C - 128) = z := ⟨_, rfl⟩
  have r1 : bits .or .i64 (C1 * 64) (C - 128) = C2 := by rw [or_join 6 _ _ (by omega) (by omega) (by omega) (by omega) (by omega) (by omega)]; exact hC2
  have s1 : IntKind.i64.wrap (C1 * 64) = C1 * 64 := by rw [IntKind.wrap_i64]; omega
  have hv : C2 = V := by omega
  rw [hv] at r1
  clear hv hC2
  have HW := Lib.hid (whole_any V)
  rw [hw] at HW
  rw [ha] at hz0
  rw [hb] at hz1
  rw [hc] at hz2
  clear ha hb hc
  go_enter Tryd.func77, Tryd.ntmps77
  go_wp2_with fail
  refine wp_loop_rounds 3 ?_
  rw [rounds_succ]
  go_wp2_with fail
  rw [rounds_succ]
  go_wp2_with fail
  rw [rounds_succ]
  go_wp2_with fail
  refine (HW.out _).mono ?_
  rintro e w1 ⟨rfl, rfl⟩
  go_wp2_with fail
  go_ret2
  exact ⟨by simp, rfl⟩

set_option maxRecDepth 100000 in
set_option maxHeartbeats 8000000 in
theorem first_3_ok (w : World) (a b c : UInt8) (r : List UInt8) (A B C : Int) (ha : (a.toNat : Int) = A) (hb : (b.toNat : Int) = B) (hc : (c.toNat : Int) = C) (h1 : 224 ≤ A) (h2 : A < 240) (gb : 128 ≤ B ∧ B ≤ 191) (gc : 128 ≤ C ∧ C ≤ 191) (V : Int) (hV : (((A - 224) * 64 + (B - 128)) * 64 + (C - 128)) = V) (hl : 2048 ≤ V) (hw : wholeB V = true) :
    Calls Tryd.prog 77 #[.string ⟨(a :: b :: c :: r).toArray⟩] w fun e w' => e = .returned (.tuple #[.int .i64 V, .int .i64 3]) ∧ w' = w := by
  have hz0 := byte_0 a (b :: c :: r) (by show 0 < (a :: b :: c :: r).toArray.size; simp)
  have hz1 := byte_1 a b (c :: r) (by show 1 < (a :: b :: c :: r).toArray.size; simp)
  have hz2 := byte_2 a b c (r) (by show 2 < (a :: b :: c :: r).toArray.size; simp)
  have k0 := lead_3 ⟨a.toNat, a.toNat_lt⟩
  simp only at k0
  rw [show ((a.toNat % 16 : Nat) : Int) = A - 224 by omega, ha] at k0
  obtain ⟨C0, hC0⟩ : ∃ z, A - 224 = z := ⟨_, rfl⟩
  rw [hC0] at k0
  have p0 := u8_hi ⟨b.toNat, b.toNat_lt⟩
  have q0 := u8_lo ⟨b.toNat, b.toNat_lt⟩
  simp only at p0 q0
  rw [show ((b.toNat / 64 * 64 : Nat) : Int) = 128 by omega, hb] at p0
  rw [show ((b.toNat % 64 : Nat) : Int) = B - 128 by omega, hb] at q0
  obtain ⟨C1, hC1⟩ : ∃ z, C0 * 64 + (B - 128) = z := ⟨_, rfl⟩
  have r0 : bits .or .i64 (C0 * 64) (B - 128) = C1 := by rw [or_join 6 _ _ (by omega) (by omega) (by omega) (by omega) (by omega) (by omega)]; exact hC1
  have s0 : IntKind.i64.wrap (C0 * 64) = C0 * 64 := by rw [IntKind.wrap_i64]; omega
  have p1 := u8_hi ⟨c.toNat, c.toNat_lt⟩
  have q1 := u8_lo ⟨c.toNat, c.toNat_lt⟩
  simp only at p1 q1
  rw [show ((c.toNat / 64 * 64 : Nat) : Int) = 128 by omega, hc] at p1
  rw [show ((c.toNat % 64 : Nat) : Int) = C - 128 by omega, hc] at q1
  obtain ⟨C2, hC2⟩ : ∃ z, C1 * 64 + (C - 128) = z := ⟨_, rfl⟩
  have r1 : bits .or .i64 (C1 * 64) (C - 128) = C2 := by rw [or_join 6 _ _ (by omega) (by omega) (by omega) (by omega) (by omega) (by omega)]; exact hC2
  have s1 : IntKind.i64.wrap (C1 * 64) = C1 * 64 := by rw [IntKind.wrap_i64]; omega
  have hv : C2 = V := by omega
  rw [hv] at r1
  clear hv hC2
  have HW := Lib.hid (whole_any V)
  rw [hw] at HW
  rw [ha] at hz0
  rw [hb] at hz1
  rw [hc] at hz2
  clear ha hb hc
  go_enter Tryd.func77, Tryd.ntmps77
  go_wp2_with fail
  refine wp_loop_rounds 3 ?_
  rw [rounds_succ]
  go_wp2_with fail
  rw [rounds_succ]
  go_wp2_with fail
  rw [rounds_succ]
  go_wp2_with fail
  refine (HW.out _).mono ?_
  rintro e w1 ⟨rfl, rfl⟩
  go_wp2_with fail
  go_ret2
  exact ⟨by simp, rfl⟩

end Go.Proofs.YtclahhkcbkpofaaDoor
