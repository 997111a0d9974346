/- The logarithm of every number, and the weight, by the program and by the reference. -/
import Derived.Test.YtdiekkligpinkaaChk
namespace Go.Proofs.Ytdiekkligpinkaa
open Go.RowKit

def LogV (x : Int) : Int := if 1 ≤ x then (logN x.toNat : Int) else 0
def LogE (x : Int) : Int := if 1 ≤ x then 0 else 1
theorem log_any (x : Int) (h2 : x ≤ 9223372036854775807) (w : World) :
    Calls Try.prog 7 #[.int .i64 x] w fun e w' => e = .returned (.tuple #[.int .i64 (LogV x), .int .i64 (LogE x)]) ∧ w = w' := by
  by_cases h1 : 1 ≤ x
  · have h := log_pos x.toNat (by omega) (by omega) w
    rw [Int.toNat_of_nonneg (by omega)] at h
    unfold LogV LogE
    rw [if_pos h1, if_pos h1]
    exact h
  · have e1 : LogV x = 0 := by unfold LogV; rw [if_neg h1]
    have e2 : LogE x = 1 := by unfold LogE; rw [if_neg h1]
    rw [e1, e2]
    clear e1 e2
    go_enter Try.func7, Try.ntmps7
    go_wp2
    go_ret2
    exact ⟨rfl, rfl⟩
theorem rlog_any (x : Int) (h2 : x ≤ 9223372036854775807) (w : World) :
    Calls Try.prog 8 #[.int .i64 x] w fun e w' => e = .returned (.tuple #[.int .i64 (LogV x), .int .i64 (LogE x)]) ∧ w = w' := by
  by_cases h1 : 1 ≤ x
  · have h := rlog_pos x.toNat (by omega) (by omega) w
    rw [Int.toNat_of_nonneg (by omega)] at h
    unfold LogV LogE
    rw [if_pos h1, if_pos h1]
    exact h
  · have e1 : LogV x = 0 := by unfold LogV; rw [if_neg h1]
    have e2 : LogE x = 1 := by unfold LogE; rw [if_neg h1]
    rw [e1, e2]
    clear e1 e2
    go_enter Try.func8, Try.ntmps8
    go_wp2
    go_ret2
    exact ⟨rfl, rfl⟩

theorem logN_lt {x : Nat} (h0 : 1 ≤ x) (h : x < 2 ^ 63) : logN x < 4194304 := by
  have hw : whole x ≤ 62 := by
    unfold whole
    have := (Nat.log2_lt (by omega : x ≠ 0)).2 h
    omega
  have := lsteps_lt (mant x (whole x)) (whole x) 16
  unfold logN
  omega
theorem logV_bounds {x : Int} (h1 : 1 ≤ x) (h2 : x ≤ 9223372036854775807) : 0 ≤ LogV x ∧ LogV x ≤ 4194303 := by
  have := logN_lt (x := x.toNat) (by omega) (by omega)
  unfold LogV
  rw [if_pos h1]
  omega
theorem logV_mono {x y : Int} (h1 : 1 ≤ x) (h : x ≤ y) : LogV x ≤ LogV y := by
  have := logN_mono (a := x.toNat) (b := y.toNat) (by omega) (by omega)
  unfold LogV
  rw [if_pos h1, if_pos (by omega)]
  omega

def WtOk (d h : Int) : Bool := decide (1 ≤ d ∧ d ≤ 1073741824 ∧ 1 ≤ h ∧ h ≤ d)
def WtV (d h : Int) : Int := if WtOk d h then LogV (2 * d + 2) - LogV (2 * h + 1) else 0
def WtE (d h : Int) : Int := if WtOk d h then 0 else 1
theorem wt_yes {d h : Int} (hk : 1 ≤ d ∧ d ≤ 1073741824 ∧ 1 ≤ h ∧ h ≤ d) : WtV d h = LogV (2 * d + 2) - LogV (2 * h + 1) ∧ WtE d h = 0 := by
  have : WtOk d h = true := decide_eq_true hk
  unfold WtV WtE
  rw [this]
  exact ⟨rfl, rfl⟩
theorem wt_no {d h : Int} (hk : ¬ (1 ≤ d ∧ d ≤ 1073741824 ∧ 1 ≤ h ∧ h ≤ d)) : WtV d h = 0 ∧ WtE d h = 1 := by
  have : WtOk d h = false := decide_eq_false hk
  unfold WtV WtE
  rw [this]
  exact ⟨rfl, rfl⟩
theorem wt_bounds {d h : Int} (hk : 1 ≤ d ∧ d ≤ 1073741824 ∧ 1 ≤ h ∧ h ≤ d) : 0 ≤ WtV d h ∧ WtV d h ≤ 4194303 := by
  rw [(wt_yes hk).1]
  have a := logV_bounds (x := 2 * d + 2) (by omega) (by omega)
  have b := logV_bounds (x := 2 * h + 1) (by omega) (by omega)
  have c := logV_mono (x := 2 * h + 1) (y := 2 * d + 2) (by omega) (by omega)
  omega
theorem wt_chk (d h : Int) : (⟨d, 1, h, 1, 1⟩ : Counts).ok = WtOk d h := by
  unfold Counts.ok WtOk
  rw [decide_eq_decide]
  simp
theorem ret_pair {a b c d : Int} (h1 : a = b) (h2 : c = d) : Ending.returned (.tuple #[.int .i64 a, .int .i64 c]) = .returned (.tuple #[.int .i64 b, .int .i64 d]) := by rw [h1, h2]

set_option maxHeartbeats 1000000 in
theorem weight_any (d h : Int) (w : World) : Calls Try.prog 12 #[.int .i64 d, .int .i64 h] w fun e w' => e = .returned (.tuple #[.int .i64 (WtV d h), .int .i64 (WtE d h)]) ∧ Below w.heap.size w w' := by
  have hc := fun W => chk_any ⟨d, 1, h, 1, 1⟩ W
  simp only [wt_chk, Counts.val] at hc
  by_cases hk : 1 ≤ d ∧ d ≤ 1073741824 ∧ 1 ≤ h ∧ h ≤ d
  · have e0 : WtOk d h = true := decide_eq_true hk
    rw [e0] at hc
    have HC := Lib.hid hc
    have HW := Lib.hid (wt_yes hk)
    have a := logV_bounds (x := 2 * d + 2) (by omega) (by omega)
    have b := logV_bounds (x := 2 * h + 1) (by omega) (by omega)
    obtain ⟨k1, k2, k3, k4⟩ := hk
    clear hc e0
    go_enter Try.func12, Try.ntmps12
    go_wp2_with fail
    refine (HC.out _).mono ?_
    rintro e w1 ⟨rfl, hb1⟩
    go_wp2_with fail
    refine (log_any _ (by omega) _).mono ?_
    rintro e w2 ⟨rfl, rfl⟩
    go_wp2_with fail
    refine (log_any _ (by omega) _).mono ?_
    rintro e w3 ⟨rfl, rfl⟩
    go_wp2
    go_ret2
    exact ⟨ret_pair HW.out.1.symm HW.out.2.symm, hb1⟩
  · have e0 : WtOk d h = false := decide_eq_false hk
    rw [e0] at hc
    have HC := Lib.hid hc
    have HW := Lib.hid (wt_no hk)
    clear hc e0 hk
    go_enter Try.func12, Try.ntmps12
    go_wp2_with fail
    refine (HC.out _).mono ?_
    rintro e w1 ⟨rfl, hb1⟩
    go_wp2
    go_ret2
    exact ⟨ret_pair HW.out.1.symm HW.out.2.symm, hb1⟩

set_option maxHeartbeats 1000000 in
theorem rweight_any (d h : Int) (w : World) : Calls Try.prog 13 #[.int .i64 d, .int .i64 h] w fun e w' => e = .returned (.tuple #[.int .i64 (WtV d h), .int .i64 (WtE d h)]) ∧ w = w' := by
  by_cases hk : 1 ≤ d ∧ d ≤ 1073741824 ∧ 1 ≤ h ∧ h ≤ d
  · have HW := Lib.hid (wt_yes hk)
    have a := logV_bounds (x := 2 * d + 2) (by omega) (by omega)
    have b := logV_bounds (x := 2 * h + 1) (by omega) (by omega)
    obtain ⟨k1, k2, k3, k4⟩ := hk
    go_enter Try.func13, Try.ntmps13
    go_wp2_with fail
    refine (rlog_any _ (by omega) _).mono ?_
    rintro e w2 ⟨rfl, rfl⟩
    go_wp2_with fail
    refine (rlog_any _ (by omega) _).mono ?_
    rintro e w3 ⟨rfl, rfl⟩
    go_wp2
    go_ret2
    exact ⟨ret_pair HW.out.1.symm HW.out.2.symm, rfl⟩
  · have HW := Lib.hid (wt_no hk)
    have ht : d < 1 ∨ (1 ≤ d ∧ 1073741824 < d) ∨ (1 ≤ d ∧ d ≤ 1073741824 ∧ h < 1) ∨ (1 ≤ d ∧ d ≤ 1073741824 ∧ 1 ≤ h ∧ d < h) := by omega
    clear hk
    rcases ht with t | ⟨t1, t2⟩ | ⟨t1, t2, t3⟩ | ⟨t1, t2, t3, t4⟩
    all_goals
      go_enter Try.func13, Try.ntmps13
      go_wp2
      go_ret2
      exact ⟨ret_pair HW.out.1.symm HW.out.2.symm, rfl⟩
end Go.Proofs.Ytdiekkligpinkaa
