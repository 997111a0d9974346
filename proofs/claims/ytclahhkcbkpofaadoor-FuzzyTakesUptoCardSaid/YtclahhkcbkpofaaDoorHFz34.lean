/- utf.first, case by case (printed by mkfirst.py). -/
import Derived.Test.YtclahhkcbkpofaaDoorHFz33
namespace Go.Proofs.YtclahhkcbkpofaaDoor
open Go.RowKit
open Sp
set_option linter.unusedVariables false
set_option maxRecDepth 100000 in
set_option maxHeartbeats 8000000 in
theorem first_4_short1 (w : World) (a : UInt8) (A : Int) (ha : (a.toNat : Int) = A) (h1 : 240 ≤ A) (h2 : A < 248) :
    Calls Tryd.prog 77 #[.string ⟨([a]).toArray⟩] w fun e w' => e = .returned (.tuple #[.int .i64 0, .int .i64 0]) ∧ w' = w := by
  have hz0 := byte_0 a [] (by show 0 < ([a]).toArray.size; simp)
  have k0 := lead_4 ⟨a.toNat, a.toNat_lt⟩
  simp only at k0
  rw [show ((a.toNat % 8 : Nat) : Int) = A - 240 by omega, ha] at k0
  obtain ⟨C0, hC0⟩ : ∃ z, A - 240 = z := ⟨_, rfl⟩
  rw [hC0] at k0
  rw [ha] at hz0
  clear ha
  go_enter Tryd.func77, Tryd.ntmps77
  go_wp2_with fail
  go_ret2
  exact ⟨by simp, rfl⟩

set_option maxRecDepth 100000 in
set_option maxHeartbeats 8000000 in
theorem first_4_short2 (w : World) (a b : UInt8) (A B : Int) (ha : (a.toNat : Int) = A) (hb : (b.toNat : Int) = B) (h1 : 240 ≤ A) (h2 : A < 248) :
    Calls Tryd.prog 77 #[.string ⟨([a, b]).toArray⟩] w fun e w' => e = .returned (.tuple #[.int .i64 0, .int .i64 0]) ∧ w' = w := by
  have hz0 := byte_0 a [b] (by show 0 < ([a, b]).toArray.size; simp)
  have hz1 := byte_1 a b [] (by show 1 < ([a, b]).toArray.size; simp)
  have k0 := lead_4 ⟨a.toNat, a.toNat_lt⟩
  simp only at k0
  rw [show ((a.toNat % 8 : Nat) : Int) = A - 240 by omega, ha] at k0
  obtain ⟨C0, hC0⟩ : ∃ z, A - 240 = z := ⟨_, rfl⟩
  rw [hC0] at k0
  rw [ha] at hz0
  rw [hb] at hz1
  clear ha hb
  go_enter Tryd.func77, Tryd.ntmps77
  go_wp2_with fail
  go_ret2
  exact ⟨by simp, rfl⟩

set_option maxRecDepth 100000 in
set_option maxHeartbeats 8000000 in
theorem first_4_short3 (w : World) (a b c : UInt8) (A B C : Int) (ha : (a.toNat : Int) = A) (hb : (b.toNat : Int) = B) (hc : (c.toNat : Int) = C) (h1 : 240 ≤ A) (h2 : A < 248) :
    Calls Tryd.prog 77 #[.string ⟨([a, b, c]).toArray⟩] w fun e w' => e = .returned (.tuple #[.int .i64 0, .int .i64 0]) ∧ w' = w := by
  have hz0 := byte_0 a [b, c] (by show 0 < ([a, b, c]).toArray.size; simp)
  have hz1 := byte_1 a b [c] (by show 1 < ([a, b, c]).toArray.size; simp)
  have hz2 := byte_2 a b c [] (by show 2 < ([a, b, c]).toArray.size; simp)
  have k0 := lead_4 ⟨a.toNat, a.toNat_lt⟩
  simp only at k0
  rw [show ((a.toNat % 8 : Nat) : Int) = A - 240 by omega, ha] at k0
  obtain ⟨C0, hC0⟩ : ∃ z, A - 240 = z := ⟨_, rfl⟩
  rw [hC0] at k0
  rw [ha] at hz0
  rw [hb] at hz1
  rw [hc] at hz2
  clear ha hb hc
  go_enter Tryd.func77, Tryd.ntmps77
  go_wp2_with fail
  go_ret2
  exact ⟨by simp, rfl⟩

set_option maxRecDepth 100000 in
set_option maxHeartbeats 8000000 in
theorem first_4_bad1 (w : World) (a b c d : UInt8) (r : List UInt8) (A B C D : Int) (ha : (a.toNat : Int) = A) (hb : (b.toNat : Int) = B) (hc : (c.toNat : Int) = C) (hd : (d.toNat : Int) = D) (h1 : 240 ≤ A) (h2 : A < 248)  (gz : ¬ (128 ≤ B ∧ B ≤ 191)) :
    Calls Tryd.prog 77 #[.string ⟨(a :: b :: c :: d :: r).toArray⟩] w fun e w' => e = .returned (.tuple #[.int .i64 0, .int .i64 0]) ∧ w' = w := by
  have hz0 := byte_0 a (b :: c :: d :: r) (by show 0 < (a :: b :: c :: d :: r).toArray.size; simp)
  have hz1 := byte_1 a b (c :: d :: r) (by show 1 < (a :: b :: c :: d :: r).toArray.size; simp)
  have hz2 := byte_2 a b c (d :: r) (by show 2 < (a :: b :: c :: d :: r).toArray.size; simp)
  have hz3 := byte_3 a b c d (r) (by show 3 < (a :: b :: c :: d :: r).toArray.size; simp)
  have k0 := lead_4 ⟨a.toNat, a.toNat_lt⟩
  simp only at k0
  rw [show ((a.toNat % 8 : Nat) : Int) = A - 240 by omega, ha] at k0
  obtain ⟨C0, hC0⟩ : ∃ z, A - 240 = z := ⟨_, rfl⟩
  rw [hC0] at k0
  have p0 := u8_hi ⟨b.toNat, b.toNat_lt⟩
  simp only at p0
  rw [hb] at p0
  obtain ⟨Z, hZ⟩ : ∃ z, ((b.toNat / 64 * 64 : Nat) : Int) = z := ⟨_, rfl⟩
  rw [hZ] at p0
  have hne : ¬ (Z = 128) := by omega
  have hnb : (Z == 128) = false := by simp; exact hne
  rw [ha] at hz0
  rw [hb] at hz1
  rw [hc] at hz2
  rw [hd] at hz3
  clear ha hb hc hd
  go_enter Tryd.func77, Tryd.ntmps77
  go_wp2_with fail
  refine wp_loop_rounds 1 ?_
  rw [rounds_succ]
  go_wp2_with fail
  go_ret2
  exact ⟨by simp, rfl⟩

set_option maxRecDepth 100000 in
set_option maxHeartbeats 8000000 in
theorem first_4_bad2 (w : World) (a b c d : UInt8) (r : List UInt8) (A B C D : Int) (ha : (a.toNat : Int) = A) (hb : (b.toNat : Int) = B) (hc : (c.toNat : Int) = C) (hd : (d.toNat : Int) = D) (h1 : 240 ≤ A) (h2 : A < 248) (gb : 128 ≤ B ∧ B ≤ 191) (gz : ¬ (128 ≤ C ∧ C ≤ 191)) :
    Calls Tryd.prog 77 #[.string ⟨(a :: b :: c :: d :: r).toArray⟩] w fun e w' => e = .returned (.tuple #[.int .i64 0, .int .i64 0]) ∧ w' = w := by
  have hz0 := byte_0 a (b :: c :: d :: r) (by show 0 < (a :: b :: c :: d :: r).toArray.size; simp)
  have hz1 := byte_1 a b (c :: d :: r) (by show 1 < (a :: b :: c :: d :: r).toArray.size; simp)
  have hz2 := byte_2 a b c (d :: r) (by show 2 < (a :: b :: c :: d :: r).toArray.size; simp)
  have hz3 := byte_3 a b c d (r) (by show 3 < (a :: b :: c :: d :: r).toArray.size; simp)
  have k0 := lead_4 ⟨a.toNat, a.toNat_lt⟩
  simp only at k0
  rw [show ((a.toNat % 8 : Nat) : Int) = A - 240 by omega, ha] at k0
  obtain ⟨C0, hC0⟩ : ∃ z, A - 240 = z := ⟨_, rfl⟩
  rw [hC0] at k0
  have p0 := u8_hi ⟨b.toNat, b.toNat_lt⟩
  have q0 := u8_lo ⟨b.toNat, b.toNat_lt⟩
  simp only at p0 q0
  rw [show ((b.toNat / 64 * 64 : Nat) : Int) = 128 by omega, hb] at p0
  rw [show ((b.toNat % 64 : Nat) : Int) = B - 128 by omega, hb] at q0
  obtain ⟨C1, hC1⟩ : ∃ z, C0 * 64 + (B - 128) = z := ⟨_, rfl⟩
  have r0 : bits .or .i64 (C0 * 64) (B - 128) = C1 := by rw [or_join 6 _ _ (by omega) (by omega) (by omega) (by omega) (by omega) (by omega)]; exact hC1
  have s0 : IntKind.i64.wrap (C0 * 64) = C0 * 64 := by rw [IntKind.wrap_i64]; omega
  have p1 := u8_hi ⟨c.toNat, c.toNat_lt⟩
  simp only at p1
  rw [hc] at p1
  obtain ⟨Z, hZ⟩ : ∃ z, ((c.toNat / 64 * 64 : Nat) : Int) = z := ⟨_, rfl⟩
  rw [hZ] at p1
  have hne : ¬ (Z = 128) := by omega
  have hnb : (Z == 128) = false := by simp; exact hne
  rw [ha] at hz0
  rw [hb] at hz1
  rw [hc] at hz2
  rw [hd] at hz3
  clear ha hb hc hd
  go_enter Tryd.func77, Tryd.ntmps77
  go_wp2_with fail
  refine wp_loop_rounds 2 ?_
  rw [rounds_succ]
  go_wp2_with fail
  rw [rounds_succ]
  go_wp2_with fail
  go_ret2
  exact ⟨by simp, rfl⟩

set_option maxRecDepth 100000 in
set_option maxHeartbeats 8000000 in
theorem first_4_bad3 (w : World) (a b c d : UInt8) (r : List UInt8) (A B C D : Int) (ha : (a.toNat : Int) = A) (hb : (b.toNat : Int) = B) (hc : (c.toNat : Int) = C) (hd : (d.toNat : Int) = D) (h1 : 240 ≤ A) (h2 : A < 248) (gb : 128 ≤ B ∧ B ≤ 191) (gc : 128 ≤ C ∧ C ≤ 191) (gz : ¬ (128 ≤ D ∧ D ≤ 191)) :
    Calls Tryd.prog 77 #[.string ⟨(a :: b :: c :: d :: r).toArray⟩] w fun e w' => e = .returned (.tuple #[.int .i64 0, .int .i64 0]) ∧ w' = w := by
  have hz0 := byte_0 a (b :: c :: d :: r) (by show 0 < (a :: b :: c :: d :: r).toArray.size; simp)
  have hz1 := byte_1 a b (c :: d :: r) (by show 1 < (a :: b :: c :: d :: r).toArray.size; simp)
  have hz2 := byte_2 a b c (d :: r) (by show 2 < (a :: b :: c :: d :: r).toArray.size; simp)
  have hz3 := byte_3 a b c d (r) (by show 3 < (a :: b :: c :: d :: r).toArray.size; simp)
  have k0 := lead_4 ⟨a.toNat, a.toNat_lt⟩
  simp only at k0
  rw [show ((a.toNat % 8 : Nat) : Int) = A - 240 by omega, ha] at k0
  obtain ⟨C0, hC0⟩ : ∃ z, A - 240 = z := ⟨_, rfl⟩
  rw [hC0] at k0
  have p0 := u8_hi ⟨b.toNat, b.toNat_lt⟩
  have q0 := u8_lo ⟨b.toNat, b.toNat_lt⟩
  simp only at p0 q0
  rw [show ((b.toNat / 64 * 64 : Nat) : Int) = 128 by omega, hb] at p0
  rw [show ((b.toNat % 64 : Nat) : Int) = B - 128 by omega, hb] at q0
  obtain ⟨C1, hC1⟩ : ∃ z, C0 * 64 + (B - 128) = z := ⟨_, rfl⟩
  have r0 : bits .or .i64 (C0 * 64) (B - 128) = C1 := by rw [or_join 6 _ _ (by omega) (by omega) (by omega) (by omega) (by omega) (by omega)]; exact hC1
  have s0 : IntKind.i64.wrap (C0 * 64) = C0 * 64 := by rw [IntKind.wrap_i64]; omega
  have p1 := u8_hi ⟨c.toNat, c.toNat_lt⟩
  have q1 := u8_lo ⟨c.toNat, c.toNat_lt⟩
  simp only at p1 q1
  rw [show ((c.toNat / 64 * 64 : Nat) : Int) = 128 by omega, hc] at p1
  rw [show ((c.toNat % 64 : Nat) : Int) = C - 128 by omega, hc] at q1
  obtain ⟨C2, hC2⟩ : ∃ z, C1 * 64 + (C - 128) = z := ⟨_, rfl⟩
  have r1 : bits .or .i64 (C1 * 64) (C - 128) = C2 := by rw [or_join 6 _ _ (by omega) (by omega) (by omega) (by omega) (by omega) (by omega)]; exact hC2
  have s1 : IntKind.i64.wrap (C1 * 64) = C1 * 64 := by rw [IntKind.wrap_i64]; omega
  have p2 := u8_hi ⟨d.toNat, d.toNat_lt⟩
  simp only at p2
  rw [hd] at p2
  obtain ⟨Z, hZ⟩ : ∃ z, ((d.toNat / 64 * 64 : Nat) : Int) = z := ⟨_, rfl⟩
  rw [hZ] at p2
  have hne : ¬ (Z = 128) := by omega
  have hnb : (Z == 128) = false := by simp; exact hne
  rw [ha] at hz0
  rw [hb] at hz1
  rw [hc] at hz2
  rw [hd] at hz3
  clear ha hb hc hd
  go_enter Tryd.func77, Tryd.ntmps77
  go_wp2_with fail
  refine wp_loop_rounds 3 ?_
  rw [rounds_succ]
  go_wp2_with fail
  rw [rounds_succ]
  go_wp2_with fail
  rw [rounds_succ]
  go_wp2_with fail
  go_ret2
  exact ⟨by simp, rfl⟩

end Go.Proofs.YtclahhkcbkpofaaDoor
/- utf.first, case by case (printed by mkfirst.py). -/
namespace Go.Proofs.YtclahhkcbkpofaaDoor
open Go.RowKit
open Sp
set_option linter.unusedVariables false
set_option maxRecDepth 100000 in
set_option maxHeartbeats 8000000 in
theorem first_4_low (w : World) (a b c d : UInt8) (r : List UInt8) (A B C D : Int) (ha : (a.toNat : Int) = A) (hb : (b.toNat : Int) = B) (hc : (c.toNat : Int) = C) (hd : (d.toNat : Int) = D) (h1 : 240 ≤ A) (h2 : A < 248) (gb : 128 ≤ B ∧ B ≤ 191) (gc : 128 ≤ C ∧ C ≤ 191) (gd : 128 ≤ D ∧ D ≤ 191) (V : Int) (hV : ((((A - 240) * 64 + (B - 128)) * 64 + (C - 128)) * 64 + (D - 128)) = V) (hl : V < 65536) :
    Calls Tryd.prog 77 #[.string ⟨(a :: b :: c :: d :: r).toArray⟩] w fun e w' => e = .returned (.tuple #[.int .i64 0, .int .i64 0]) ∧ w' = w := by
  have hz0 := byte_0 a (b :: c :: d :: r) (by show 0 < (a :: b :: c :: d :: r).toArray.size; simp)
  have hz1 := byte_1 a b (c :: d :: r) (by show 1 < (a :: b :: c :: d :: r).toArray.size; simp)
  have hz2 := byte_2 a b c (d :: r) (by show 2 < (a :: b :: c :: d :: r).toArray.size; simp)
  have hz3 := byte_3 a b c d (r) (by show 3 < (a :: b :: c :: d :: r).toArray.size; simp)
  have k0 := lead_4 ⟨a.toNat, a.toNat_lt⟩
  simp only at k0
  rw [show ((a.toNat % 8 : Nat) : Int) = A - 240 by omega, ha] at k0
  obtain ⟨C0, hC0⟩ : ∃ z, A - 240 = z := ⟨_, rfl⟩
  rw [hC0] at k0
  have p0 := u8_hi ⟨b.toNat, b.toNat_lt⟩
  have q0 := u8_lo ⟨b.toNat, b.toNat_lt⟩
  simp only at p0 q0
  rw [show ((b.toNat / 64 * 64 : Nat) : Int) = 128 by omega, hb] at p0
  rw [show ((b.toNat % 64 : Nat) : Int) = B - 128 by omega, hb] at q0
  obtain ⟨C1, hC1⟩ : ∃ z, C0 * 64 + (B - 128) = z := ⟨_, rfl⟩
  have r0 : bits .or .i64 (C0 * 64) (B - 128) = C1 := by rw [or_join 6 _ _ (by omega) (by omega) (by omega) (by omega) (by omega) (by omega)]; exact hC1
  have s0 : IntKind.i64.wrap (C0 * 64) = C0 * 64 := by rw [IntKind.wrap_i64]; omega
  have p1 := u8_hi ⟨c.toNat, c.toNat_lt⟩
  have q1 := u8_lo ⟨c.toNat, c.toNat_lt⟩
  simp only at p1 q1
  rw [show ((c.toNat / 64 * 64 : Nat) : Int) = 128 by omega, hc] at p1
  rw [show ((c.toNat % 64 : Nat) : Int) = C - 128 by omega, hc] at q1
  obtain ⟨C2, hC2⟩ : ∃ z, C1 * 64 + (C - 128) = z := ⟨_, rfl⟩
  have r1 : bits .or .i64 (C1 * 64) (C - 128) = C2 := by rw [or_join 6 _ _ (by omega) (by omega) (by omega) (by omega) (by omega) (by omega)]; exact hC2
  have s1 : IntKind.i64.wrap (C1 * 64) = C1 * 64 := by rw [IntKind.wrap_i64]; omega
  have p2 := u8_hi ⟨d.toNat, d.toNat_lt⟩
  have q2 := u8_lo ⟨d.toNat, d.toNat_lt⟩
  simp only at p2 q2
  rw [show ((d.toNat / 64 * 64 : Nat) : Int) = 128 by omega, hd] at p2
  rw [show ((d.toNat % 64 : Nat) : Int) = D - 128 by omega, hd] at q2
  obtain ⟨C3, hC3⟩ : ∃ z, C2 * 64 + (D - 128) = z := ⟨_, rfl⟩
  have r2 : bits .or .i64 (C2 * 64) (D - 128) = C3 := by rw [or_join 6 _ _ (by omega) (by omega) (by omega) (by omega) (by omega) (by omega)]; exact hC3
  have s2 : IntKind.i64.wrap (C2 * 64) = C2 * 64 := by rw [IntKind.wrap_i64]; omega
  have hv : C3 = V := by omega
  rw [hv] at r2
  clear hv hC3
  rw [ha] at hz0
  rw [hb] at hz1
  rw [hc] at hz2
  rw [hd] at hz3
  clear ha hb hc hd
  go_enter Tryd.func77, Tryd.ntmps77
  go_wp2_with fail
  refine wp_loop_rounds 4 ?_
  rw [rounds_succ]
  go_wp2_with fail
  rw [rounds_succ]
  go_wp2_with fail
  rw [rounds_succ]
  go_wp2_with fail
  rw [rounds_succ]
  go_wp2_with fail
  go_ret2
  exact ⟨by simp, rfl⟩

set_option maxRecDepth 100000 in
set_option maxHeartbeats 8000000 in
theorem first_4_half (w : World) (a b c d : UInt8) (r : List UInt8) (A B C D : Int) (ha : (a.toNat : Int) = A) (hb : (b.toNat : Int) = B) (hc : (c.toNat : Int) = C) (hd : (d.toNat : Int) = D) (h1 : 240 ≤ A) (h2 : A < 248) (gb : 128 ≤ B ∧ B ≤ 191) (gc : 128 ≤ C ∧ C ≤ 191) (gd : 128 ≤ D ∧ D ≤ 191) (V : Int) (hV : ((((A - 240) * 64 + (B - 128)) * 64 + (C - 128)) * 64 + (D - 128)) = V) (hl : 65536 ≤ V) (hw : wholeB V = false) :
    Calls Tryd.prog 77 #[.string ⟨(a :: b :: c :: d :: r).toArray⟩] w fun e w' => e = .returned (.tuple #[.int .i64 0, .int .i64 0]) ∧ w' = w := by
  have hz0 := byte_0 a (b :: c :: d :: r) (by show 0 < (a :: b :: c :: d :: r).toArray.size; simp)
  have hz1 := byte_1 a b (c :: d :: r) (by show 1 < (a :: b :: c :: d :: r).toArray.size; simp)
  have hz2 := byte_2 a b c (d :: r) (by show 2 < (a :: b :: c :: d :: r).toArray.size; simp)
  have hz3 := byte_3 a b c d (r) (by show 3 < (a :: b :: c :: d :: r).toArray.size; simp)
  have k0 := lead_4 ⟨a.toNat, a.toNat_lt⟩
  simp only at k0
  rw [show ((a.toNat % 8 : Nat) : Int) = A - 240 by omega, ha] at k0
  obtain ⟨C0, hC0⟩ : ∃ z, A - 240 = z := ⟨_, rfl⟩
  rw [hC0] at k0
  have p0 := u8_hi ⟨b.toNat, b.toNat_lt⟩
  have q0 := u8_lo ⟨b.toNat, b.toNat_lt⟩
  simp only at p0 q0
  rw [show ((b.toNat / 64 * 64 : Nat) : Int) = 128 by omega, hb] at p0
  rw [show ((b.toNat % 64 : Nat) : Int) = B - 128 by omega, hb] at q0
  obtain ⟨C1, hC1⟩ : ∃ z, C0 * 64 + (B - 128) = z := ⟨_, rfl⟩
  have r0 : bits .or .i64 (C0 * 64) (B - 128) = C1 := by rw [or_join 6 _ _ (by omega) (by omega) (by omega) (by omega) (by omega) (by omega)]; exact hC1
  have s0 : IntKind.i64.wrap (C0 * 64) = C0 * 64 := by rw [IntKind.wrap_i64]; omega
  have p1 := u8_hi ⟨c.toNat, c.toNat_lt⟩
  have q1 := u8_lo ⟨c.toNat, c.toNat_lt⟩
  simp only at p1 q1
  rw [show ((c.toNat / 64 * 64 : Nat) : Int) = 128 by omega, hc] at p1
  rw [show ((c.toNat % 64 : Nat) : Int) = C - 128 by omega, hc] at q1
  obtain ⟨C2, hC2⟩ : ∃ z, C1 * 64 + (C - 128) = z := ⟨_, rfl⟩
  have r1 : bits .or .i64 (C1 * 64) (C - 128) = C2 := by rw [or_join 6 _ _ (by omega) (by omega) (by omega) (by omega) (by omega) (by omega)]; exact hC2
  have s1 : IntKind.i64.wrap (C1 * 64) = C1 * 64 := by rw [IntKind.wrap_i64]; omega
  have p2 := u8_hi ⟨d.toNat, d.toNat_lt⟩
  have q2 := u8_lo ⟨d.toNat, d.toNat_lt⟩
  simp only at p2 q2
  rw [show ((d.toNat / 64 * 64 : Nat) : Int) = 128 by omega, hd] at p2
  rw [show ((d.toNat % 64 : Nat) : Int) = D - 128 by omega, hd] at q2
  obtain ⟨C3, hC3⟩ : ∃ z, C2 * 64 + (D - 128) = z := ⟨_, rfl⟩
  have r2 : bits .or .i64 (C2 * 64) (D - 128) = C3 := by rw [or_join 6 _ _ (by omega) (by omega) (by omega) (by omega) (by omega) (by omega)]; exact hC3
  have s2 : IntKind.i64.wrap (C2 * 64) = C2 * 64 := by rw [IntKind.wrap_i64]; omega
  have hv : C3 = V := by omega
  rw [hv] at r2
  clear hv hC3
  have HW := Lib.hid (whole_any V)
  rw [hw] at HW
  rw [ha] at hz0
  rw [hb] at hz1
  rw [hc] at hz2
  rw [hd] at hz3
  clear ha hb hc hd
  go_enter Tryd.func77, Tryd.ntmps77
  go_wp2_with fail
  refine wp_loop_rounds 4 ?_
  rw [rounds_succ]
  go_wp2_with fail
  rw [rounds_succ]
  go_wp2_with fail
  rw [rounds_succ]
  go_wp2_with fail
  rw [rounds_succ]
  go_wp2_with fail
  refine (HW.out _).mono ?_
  rintro e w1 ⟨rfl, rfl⟩
  go_wp2_with fail
  go_ret2
  exact ⟨by simp, rfl⟩

set_option maxRecDepth 100000 in
set_option maxHeartbeats 8000000 in
theorem first_4_ok (w : World) (a b c d : UInt8) (r : List UInt8) (A B C D : Int) (ha : (a.toNat : Int) = A) (hb : (b.toNat : Int) = B) (hc : (c.toNat : Int) = C) (hd : (d.toNat : Int) = D) (h1 : 240 ≤ A) (h2 : A < 248) (gb : 128 ≤ B ∧ B ≤ 191) (gc : 128 ≤ C ∧ C ≤ 191) (gd : 128 ≤ D ∧ D ≤ 191) (V : Int) (hV : ((((A - 240) * 64 + (B - 128)) * 64 + (C - 128)) * 64 + (D - 128)) = V) (hl : 65536 ≤ V) (hw : wholeB V = true) :
    Calls Tryd.prog 77 #[.string ⟨(a :: b :: c :: d :: r).toArray⟩] w fun e w' => e = .returned (.tuple #[.int .i64 V, .int .i64 4]) ∧ w' = w := by
  have hz0 := byte_0 a (b :: c :: d :: r) (by show 0 < (a :: b :: c :: d :: r).toArray.size; simp)
  have hz1 := byte_1 a b (c :: d :: r) (by show 1 < (a :: b :: c :: d :: r).toArray.size; simp)
  have hz2 := byte_2 a b c (d :: r) (by show 2 < (a :: b :: c :: d :: r).toArray.size; simp)
  have hz3 := byte_3 a b c d (r) (by show 3 < (a :: b :: c :: d :: r).toArray.size; simp)
  have k0 := lead_4 ⟨a.toNat, a.toNat_lt⟩
  simp only at k0
  rw [show ((a.toNat % 8 : Nat) : Int) = A - 240 by omega, ha] at k0
  obtain ⟨C0, hC0⟩ : ∃ z, A - 240 = z := ⟨_, rfl⟩
  rw [hC0] at k0
  have p0 := u8_hi ⟨b.toNat, b.toNat_lt⟩
  have q0 := u8_lo ⟨b.toNat, b.toNat_lt⟩
  simp only at p0 q0
  rw [show ((b.toNat / 64 * 64 : Nat) : Int) = 128 by omega, hb] at p0
  rw [show ((b.toNat % 64 : Nat) : Int) = B - 128 by omega, hb] at q0
  obtain ⟨C1, hC1⟩ : ∃ z, C0 * 64 + (B - 128) = z := ⟨_, rfl⟩
  have r0 : bits .or .i64 (C0 * 64) (B - 128) = C1 := by rw [or_join 6 _ _ (by omega) (by omega) (by omega) (by omega) (by omega) (by omega)]; exact hC1
  have s0 : IntKind.i64.wrap (C0 * 64) = C0 * 64 := by rw [IntKind.wrap_i64]; omega
  have p1 := u8_hi ⟨c.toNat, c.toNat_lt⟩
  have q1 := u8_lo ⟨c.toNat, c.toNat_lt⟩
  simp only at p1 q1
  rw [show ((c.toNat / 64 * 64 : Nat) : Int) = 128 by omega, hc] at p1
  rw [show ((c.toNat % 64 : Nat) : Int) = C - 128 by omega, hc] at q1
  obtain ⟨C2, hC2⟩ : ∃ z, C1 * 64 + (C - 128) = z := ⟨_, rfl⟩
  have r1 : bits .or .i64 (C1 * 64) (C - 128) = C2 := by rw [or_join 6 _ _ (by omega) (by omega) (by omega) (by omega) (by omega) (by omega)]; exact hC2
  have s1 : IntKind.i64.wrap (C1 * 64) = C1 * 64 := by rw [IntKind.wrap_i64]; omega
  have p2 := u8_hi ⟨d.toNat, d.toNat_lt⟩
  have q2 := u8_lo ⟨d.toNat, d.toNat_lt⟩
  simp only at p2 q2
  rw [show ((d.toNat / 64 * 64 : Nat) : Int) = 128 by omega, hd] at p2
  rw [show ((d.toNat % 64 : Nat) : Int) = D - 128 by omega, hd] at q2
  obtain ⟨C3, hC3⟩ : ∃ z, C2 * 64 + (D - 128) = z := ⟨_, rfl⟩
  have r2 : bits .or .i64 (C2 * 64) (D - 128) = C3 := by rw [or_join 6 _ _ (by omega) (by omega) (by omega) (by omega) (by omega) (by omega)]; exact hC3
  have s2 : IntKind.i64.wrap (C2 * 64) = C2 * 64 := by rw [IntKind.wrap_i64]; omega
  have hv : C3 = V := by omega
  rw [hv] at r2
  clear hv hC3
  have HW := Lib.hid (whole_any V)
  rw [hw] at HW
  rw [ha] at hz0
  rw [hb] at hz1
  rw [hc] at hz2
  rw [hd] at hz3
  clear ha hb hc hd
  go_enter Tryd.func77, Tryd.ntmps77
  go_wp2_with fail
  refine wp_loop_rounds 4 ?_
  rw [rounds_succ]
  go_wp2_with fail
  rw [rounds_succ]
  go_wp2_with fail
  rw [rounds_succ]
  go_wp2_with fail
  rw [rounds_succ]
  go_wp2_with fail
  refine (HW.out _).mono ?_
  rintro e w1 ⟨rfl, rfl⟩
  go_wp2_with fail
  go_ret2
  exact ⟨by simp, rfl⟩

end Go.Proofs.YtclahhkcbkpofaaDoor
