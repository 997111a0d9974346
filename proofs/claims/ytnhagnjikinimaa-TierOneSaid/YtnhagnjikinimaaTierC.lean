/- Check of the reference: which lists of segments may be. -/
import Derived.Test.YtnhagnjikinimaaTierB
namespace Go.Proofs.Ytnhagnjikinimaa
open Go.RowKit

set_option maxHeartbeats 1000000 in
theorem rcheck_any (A : Option Addr) (c : Nat) (l : List Seg) (w : World) (h : Sl w w.heap.size 4 A l.length (segCells l)) (hl : l.length ≤ 4398046511104) :
    Calls Try.prog 12 #[.slice A l.length c] w fun e w' => e = .returned (.int .i64 (Err (segsOk l))) ∧ Below w.heap.size w w' := by
  go_enter Try.func12, Try.ntmps12
  go_wp2
  go_loopw [3] (fun i wr => ∃ k : Nat, k ≤ l.length ∧ i = .int .i64 k ∧ Hid (segsOk (l.take k) = true) ∧ Below w.heap.size w wr) (fun i _ => l.length - (intOf i).toNat)
  case atStart => exact ⟨0, by omega, rfl, rfl, Below.refl _ _⟩
  case round =>
    obtain ⟨k, hk, rfl, hok, hb⟩ := hrel
    by_cases hlt : k < l.length
    · obtain ⟨b, off, rfl, hbB, h0, h1, h2, h3⟩ := seg_at (h.below hb) hlt
      have ht1 : (l[k].docs < 0) ∨ (0 ≤ l[k].docs ∧ 1048576 < l[k].docs) ∨ (0 ≤ l[k].docs ∧ l[k].docs ≤ 1048576 ∧ l[k].gone < 0) ∨ (0 ≤ l[k].docs ∧ l[k].docs ≤ 1048576 ∧ 0 ≤ l[k].gone ∧ l[k].docs < l[k].gone) ∨ (0 ≤ l[k].docs ∧ l[k].docs ≤ 1048576 ∧ 0 ≤ l[k].gone ∧ l[k].gone ≤ l[k].docs) := by omega
      rcases ht1 with t | ⟨t1, t2⟩ | ⟨t1, t2, t3⟩ | ⟨t1, t2, t3, t4⟩ | ⟨t1, t2, t3, t4⟩
      · have e0 : decide (l[k].docs < 0) = true := by simp; omega
        go_wp2
        go_quiet (fail)
        go_wp2
        first
        | (go_roundw
           case rel => exact ⟨k + 1, by omega, by go_num, segsOk_succ hlt hok (by omega), below_drewN hb _⟩
           case measure => simp [intOf]; omega)
        | (go_ret
           exact ⟨ret_int (segsOk_bad hlt (by omega)), below_drewN hb _⟩)
      · have e0 : decide (l[k].docs < 0) = false := by simp; omega
        have e1 : decide (1048576 < l[k].docs) = true := by simp; omega
        go_wp2
        go_quiet (fail)
        go_wp2
        first
        | (go_roundw
           case rel => exact ⟨k + 1, by omega, by go_num, segsOk_succ hlt hok (by omega), below_drewN hb _⟩
           case measure => simp [intOf]; omega)
        | (go_ret
           exact ⟨ret_int (segsOk_bad hlt (by omega)), below_drewN hb _⟩)
      · have e0 : decide (l[k].docs < 0) = false := by simp; omega
        have e1 : decide (1048576 < l[k].docs) = false := by simp; omega
        have e2 : decide (l[k].gone < 0) = true := by simp; omega
        go_wp2
        go_quiet (fail)
        go_wp2
        first
        | (go_roundw
           case rel => exact ⟨k + 1, by omega, by go_num, segsOk_succ hlt hok (by omega), below_drewN hb _⟩
           case measure => simp [intOf]; omega)
        | (go_ret
           exact ⟨ret_int (segsOk_bad hlt (by omega)), below_drewN hb _⟩)
      · have e0 : decide (l[k].docs < 0) = false := by simp; omega
        have e1 : decide (1048576 < l[k].docs) = false := by simp; omega
        have e2 : decide (l[k].gone < 0) = false := by simp; omega
        have e3 : decide (l[k].docs < l[k].gone) = true := by simp; omega
        go_wp2
        go_quiet (fail)
        go_wp2
        first
        | (go_roundw
           case rel => exact ⟨k + 1, by omega, by go_num, segsOk_succ hlt hok (by omega), below_drewN hb _⟩
           case measure => simp [intOf]; omega)
        | (go_ret
           exact ⟨ret_int (segsOk_bad hlt (by omega)), below_drewN hb _⟩)
      · have e0 : decide (l[k].docs < 0) = false := by simp; omega
        have e1 : decide (1048576 < l[k].docs) = false := by simp; omega
        have e2 : decide (l[k].gone < 0) = false := by simp; omega
        have e3 : decide (l[k].docs < l[k].gone) = false := by simp; omega
        go_wp2
        go_quiet (fail)
        go_wp2
        first
        | (go_roundw
           case rel => exact ⟨k + 1, by omega, by go_num, segsOk_succ hlt hok (by omega), below_drewN hb _⟩
           case measure => simp [intOf]; omega)
        | (go_ret
           exact ⟨ret_int (segsOk_bad hlt (by omega)), below_drewN hb _⟩)
    · go_wp2
      go_ret
      exact ⟨ret_int (segsOk_end hlt hok), hb⟩
end Go.Proofs.Ytnhagnjikinimaa
