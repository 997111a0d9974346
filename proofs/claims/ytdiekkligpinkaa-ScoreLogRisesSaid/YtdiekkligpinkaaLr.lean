/- The law ScoreLogRises: its walk. -/
import Derived.Test.YtdiekkligpinkaaAw
namespace Go.Proofs.Ytdiekkligpinkaa
open Go.RowKit

theorem logV_two {a : Int} (h1 : 1 ≤ a) (h2 : a ≤ 1073741824) : LogV (2 * a) = LogV a + 65536 := by
  have hw := whole_le (x := a) h1 (by omega)
  have := logN_two (x := a.toNat) (by omega) hw
  unfold LogV
  rw [if_pos (by omega), if_pos h1, show (2 * a).toNat = 2 * a.toNat by omega, this]
  omega
theorem logV_product {a b : Int} (a1 : 1 ≤ a) (a2 : a ≤ 1073741824) (b1 : 1 ≤ b) (b2 : b ≤ 1073741824) : 1 ≤ a * b ∧ a * b ≤ 1152921504606846976 ∧ LogV (a * b) ≤ LogV a + LogV b + 3 ∧ LogV a + LogV b ≤ LogV (a * b) + 1 := by
  have l1 : 1 ≤ a * b := by have := Int.mul_le_mul a1 b1 (by omega) (by omega); omega
  have l2 : a * b ≤ 1152921504606846976 := by have := Int.mul_le_mul a2 b2 (by omega) (by omega); omega
  have e : (a * b).toNat = a.toNat * b.toNat := Int.toNat_mul (by omega) (by omega)
  have := logN_product (a := a.toNat) (b := b.toNat) (by omega) (by omega) (by rw [← e]; omega)
  unfold LogV
  rw [if_pos l1, if_pos a1, if_pos b1, e]
  omega

set_option maxHeartbeats 2000000 in
theorem rises_walk (w : World) (a : Int) (_wa : (Lit.int .i64 a).wf = true) (b : Int) (_wb : (Lit.int .i64 b).wf = true) : Calls Try.prog 5 #[.int .i64 a, .int .i64 b] w fun e w' => e = .returned (.bool true) ∧ Below w.heap.size w w' := by
  clear _wa _wb
  by_cases hin : 1 ≤ a ∧ a ≤ 1073741824 ∧ 1 ≤ b ∧ b ≤ 1073741824
  · obtain ⟨a1, a2, b1, b2⟩ := hin
    obtain ⟨p1, p2, p3, p4⟩ := logV_product a1 a2 b1 b2
    have ht := logV_two a1 a2
    have hm1 : a ≤ b → LogV a ≤ LogV b := fun h => logV_mono a1 h
    have ba := logV_bounds (x := a) a1 (by omega)
    have bb := logV_bounds (x := b) b1 (by omega)
    have bp := logV_bounds (x := a * b) p1 (by omega)
    have hab0 := IntWalk.i64_in (a * b) (by omega)
    obtain ⟨m, em⟩ : ∃ m : Int, a * b = m := ⟨_, rfl⟩
    have hab : IntKind.i64.wrap (a * b) = m := hab0.trans em
    clear hab0
    rw [em] at p1 p2 p3 p4 bp
    have HA := Lib.hid (log_any a (by omega))
    have HB := Lib.hid (log_any b (by omega))
    have HD := Lib.hid (log_any (2 * a) (by omega))
    have HP := Lib.hid (log_any m (by omega))
    rw [ht] at HD
    generalize LogV a = x at *
    generalize LogV b = y at *
    generalize LogV m = p at *
    have ho : (a ≤ b ∧ x ≤ y) ∨ b < a := by
      by_cases h : a ≤ b
      · exact .inl ⟨h, hm1 h⟩
      · exact .inr (by omega)
    have d1 : (x + 65536 != x + 65536) = false := by simp
    obtain ⟨ba1, ba2⟩ := ba
    obtain ⟨bb1, bb2⟩ := bb
    obtain ⟨bp1, bp2⟩ := bp
    clear hm1 ht em p1 p2
    rcases ho with ⟨o1, o2⟩ | o1
    all_goals
      go_enter Try.func5, Try.ntmps5
      go_wp2_with fail
      refine (awake_any _).mono ?_
      rintro e w1 ⟨rfl, hb1⟩
      go_wp2_with fail
      refine (HA.out _).mono ?_
      rintro e w2 ⟨rfl, rfl⟩
      go_wp2_with fail
      refine (HB.out _).mono ?_
      rintro e w3 ⟨rfl, rfl⟩
      go_wp2_with fail
      refine (HD.out _).mono ?_
      rintro e w4 ⟨rfl, rfl⟩
      go_wp2_with fail
      refine (HP.out _).mono ?_
      rintro e w5 ⟨rfl, rfl⟩
      go_wp2
      go_ret
      exact ⟨ret_bool (decide_eq_true (by omega)), hb1⟩
  · have ht : a < 1 ∨ (1 ≤ a ∧ b < 1) ∨ (1 ≤ a ∧ 1 ≤ b ∧ 1073741824 < a) ∨ (1 ≤ a ∧ 1 ≤ b ∧ a ≤ 1073741824 ∧ 1073741824 < b) := by omega
    clear hin
    rcases ht with t | ⟨t1, t2⟩ | ⟨t1, t2, t3⟩ | ⟨t1, t2, t3, t4⟩
    all_goals
      go_enter Try.func5, Try.ntmps5
      go_wp2_with fail
      refine (awake_any _).mono ?_
      rintro e w1 ⟨rfl, hb1⟩
      go_wp2_with fail
      refine (awake_any _).mono ?_
      rintro e w2 ⟨rfl, hb2⟩
      go_wp2
      go_ret
      exact ⟨rfl, bcall hb1 hb2⟩
end Go.Proofs.Ytdiekkligpinkaa
