/- The score of counts that may not be; that the layer is awake; the walks of ScoreLogs and ScoreLogRises. -/
import Derived.Test.YtdiekkligpinkaaSc
namespace Go.Proofs.Ytdiekkligpinkaa
open Go.RowKit

def ScV (c : Counts) : Int := if c.ok then (ScN c : Int) else 0
def ScE (c : Counts) : Int := if c.ok then 0 else 1
set_option maxHeartbeats 1000000 in
theorem score_any (c : Counts) (w : World) : Calls Try.prog 10 #[c.val] w fun e w' => e = .returned (.tuple #[.int .i64 (ScV c), .int .i64 (ScE c)]) ∧ Below w.heap.size w w' := by
  cases hc : c.ok with
  | true =>
    have e1 : ScV c = (ScN c : Int) := by unfold ScV; rw [if_pos hc]
    have e2 : ScE c = 0 := by unfold ScE; rw [if_pos hc]
    rw [e1, e2]
    exact score_ok c hc w
  | false =>
    have e1 : ScV c = 0 := by unfold ScV; rw [if_neg (by rw [hc]; simp)]
    have e2 : ScE c = 1 := by unfold ScE; rw [if_neg (by rw [hc]; simp)]
    rw [e1, e2]
    have HC := Lib.hid (chk_any c)
    have HO := Lib.hid hc
    clear hc e1 e2
    unfold Counts.val at *
    go_enter Try.func10, Try.ntmps10
    go_wp2_with fail
    refine (HC.out _).mono ?_
    rw [HO.out]
    rintro e w1 ⟨rfl, hb1⟩
    have hB1 := bcall (bnew (brefl w) _) hb1
    go_wp2
    go_ret2
    exact ⟨rfl, hB1⟩

def cA : Counts := ⟨10, 40, 1, 2, 4⟩
theorem aw_log : LogV 3 = 103872 ∧ LogE 3 = 0 := by decide +kernel
theorem aw_wt : WtV 10 1 = 188381 ∧ WtE 10 1 = 0 := by decide +kernel
theorem aw_sc : ScV cA = 259023 ∧ ScE cA = 0 := by decide +kernel

set_option maxHeartbeats 1000000 in
theorem awake_any (w : World) : Calls Try.prog 9 #[] w fun e w' => e = .returned (.bool true) ∧ Below w.heap.size w w' := by
  go_enter Try.func9, Try.ntmps9
  go_wp2_with fail
  refine (log_any 3 (by omega) _).mono ?_
  rw [aw_log.1, aw_log.2]
  rintro e w1 ⟨rfl, rfl⟩
  go_wp2_with fail
  refine (weight_any 10 1 _).mono ?_
  rw [aw_wt.1, aw_wt.2]
  rintro e w2 ⟨rfl, hb2⟩
  go_wp2_with fail
  refine (score_any cA _).mono ?_
  rw [aw_sc.1, aw_sc.2]
  rintro e w3 ⟨rfl, hb3⟩
  go_wp2
  go_ret
  exact ⟨rfl, bcall hb2 hb3⟩

set_option maxHeartbeats 1000000 in
theorem logs_walk (w : World) (x : Int) (wx : (Lit.int .i64 x).wf = true) : Calls Try.prog 3 #[.int .i64 x] w fun e w' => e = .returned (.bool true) ∧ Below w.heap.size w w' := by
  obtain ⟨x1, x2⟩ := bounds_i64 wx
  have HL := Lib.hid (log_any x x2)
  have HR := Lib.hid (rlog_any x x2)
  generalize LogV x = a at *
  generalize LogE x = b at *
  have h1 : (a == a) = true := by simp
  have h2 : (b == b) = true := by simp
  clear x1 x2 wx
  go_enter Try.func3, Try.ntmps3
  go_wp2_with fail
  refine (HL.out _).mono ?_
  rintro e w1 ⟨rfl, rfl⟩
  go_wp2_with fail
  refine (HR.out _).mono ?_
  rintro e w2 ⟨rfl, rfl⟩
  go_wp2_with fail
  refine (awake_any _).mono ?_
  rintro e w3 ⟨rfl, hb⟩
  go_wp2
  go_ret
  exact ⟨rfl, hb⟩
end Go.Proofs.Ytdiekkligpinkaa
