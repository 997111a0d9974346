/- The walk of VfsFaults. -/
import Derived.Test.YtfiphjhpjaddcaaFaults
namespace Go.Proofs.Ytfiphjhpjaddcaa
open Go.RowKit Go.Maps Go.Sort

set_option maxRecDepth 100000 in
set_option maxHeartbeats 8000000 in
theorem faults_0 (w : World) (A : Option Addr) (N c : Nat) (x : Nat → ByteArray) (hin : TextsIn w A N c x) (n : Int) (hn : (Lit.int .i64 n).wf = true) (u : Int) (_ : 0 ≤ u) (_ : u ≤ 255) (hr : u.tmod 3 = 0) :
    Calls Try.prog 5 #[.slice A N c, .int .i64 n, .int .u8 u] w fun e w' => e = .returned (.bool true) ∧ Below w.heap.size w w' := by
  obtain ⟨hn0, hn1⟩ := bounds_i64 hn
  have HIN := Lib.hid hin
  have hNm := hin.nc
  have hNm2 := hin.cm
  clear hin hn
  unfold maxLen at hNm2
  go_enter Try.func5, Try.ntmps5
  go_wp2_with fail
  refine (dk_new Unit (brefl w)).mono ?_
  rintro e w1 ⟨rfl, h1⟩
  have H1 := Lib.hid h1
  clear h1
  generalize w.heap.size + 3 = p at *
  go_wp2_with fail
  refine (awake_any _).mono ?_
  rintro e w2 ⟨rfl, hb⟩
  have H2 := Lib.hid (H1.out.on (bcall (bnew (brefl w1) (.cells #[.int .i64 14, .int .i64 13, .int .i64 15] 25)) hb))
  clear hb H1
  go_wp2_with fail
  refine (dk_create H2.out ((small_new Unit).fits (by omega)) baA (by decide)).mono ?_
  rw [fz0_ok]
  rintro e w3 ⟨rfl, h⟩
  have H3 : Hid (Own w w3 p fz0) := h
  clear h H2
  by_cases hneg : n < 0
  · have q1 : decide (n < 0) = true := by simpa using hneg
    go_wp2_with fail
    refine (dk_arm_no H3.out n 14 hneg).mono ?_
    rintro e w4 ⟨rfl, h4⟩
    have H4 := Lib.hid h4
    clear h4
    go_wp2_with fail
    refine (dk_arm_no H4.out n 14 hneg).mono ?_
    rintro e w5 ⟨rfl, h5⟩
    have H5 := Lib.hid h5
    clear h5
    go_wp2_with fail
    go_ret
    exact ⟨rfl, H5.out.below⟩
  go_wp2_with fail
  refine (dk_arm H3.out n 14 (by omega) (by omega)).mono ?_
  rintro e w4 ⟨rfl, h⟩
  have H4 : Hid (Own w w4 p (arm fz0 n 14)) := h
  have F4 := Lib.hid (fa_new n 14 (by omega) hn1)
  clear h H3
  generalize arm fz0 n 14 = D0 at *
  go_wp2_with fail
  go_loopw [9, 10] (fun v i wr => ∃ (k : Nat) (D : DS Unit) (wb : ByteArray), k ≤ N ∧ k ≤ 80 ∧ i = .int .i64 k ∧ v = .string wb ∧ Hid (Own w wr p D) ∧ wb.size ≤ k * reachBytes ∧
    (((k : Int) ≤ n ∧ Hid (Fa D wb.data.toList (n - k) 14 false k)) ∨ (n < (k : Int) ∧ Hid (Fa D wb.data.toList (-1) 14 false k)))) (fun _ i _ => N - (intOf i).toNat)
  case atStart => exact ⟨0, D0, ⟨#[]⟩, Nat.zero_le _, Nat.zero_le _, rfl, rfl, H4, Nat.zero_le _, .inl ⟨by simp; omega, by simpa using F4⟩⟩
  case round =>
    obtain ⟨k, D, wb, hk, hk2, rfl, rfl, HO, hsz, hfa⟩ := hrel
    by_cases hgo : k < N ∧ k < 80
    · obtain ⟨hg1, hg2⟩ := hgo
      obtain ⟨b, off, hA, hb1, hcell⟩ := HIN.out.sl.at_ (show 0 < N by omega)
      subst hA
      obtain ⟨hx1, hx2⟩ := HIN.out.sz k hg1
      obtain ⟨y, hy⟩ : ∃ y, x k = y := ⟨_, rfl⟩
      have HC : Hid (∀ W : World, Below w.heap.size w W → W.cell? ⟨b, off + k, none⟩ = some (.string y)) := fun W h => by
        rw [← hy]
        exact (h.cell (p := ⟨b, off + k, none⟩) hb1).trans (hcell k (.string (x k)) (by simp [hg1]))
      have hc0 := HC.out _ HO.out.below
      rw [hy] at hx1 hx2
      clear hy hcell hb1
      have hrb : k * reachBytes ≤ 80 * reachBytes := Nat.mul_le_mul_right _ hk2
      have hrb2 : (k + 1) * reachBytes = k * reachBytes + reachBytes := Nat.succ_mul _ _
      have hcat : ∀ w : World, (Op.stringOp .add wb y).run Try.prog w = .ok (.string (wb ++ y)) w := fun w => run_string_add_sum w wb y (by unfold reachBytes at *; omega)
      have hwl : wb.data.toList.length = wb.size := (ba_size wb).symm
      have hws : (wb ++ y).size = wb.size + y.size := by rw [ba_size, ba_append, List.length_append, ← ba_size, ← ba_size]
      have hwd : (wb ++ y).data.toList = wb.data.toList ++ y.data.toList := ba_append wb y
      have hsz2 : (wb ++ y).size ≤ (k + 1) * reachBytes := by omega
      have hsz3 : wb.size ≤ (k + 1) * reachBytes := by omega
      have hsz4 : wb.size + y.size ≤ 9223372036854775807 := by unfold reachBytes at *; omega
      generalize wb ++ y = wy at *
      clear hrb hrb2 hsz hws
      generalize reachBytes = R at *
      have g1 : decide ((k : Int) < (N : Int)) = true := by simp; omega
      have g2 : decide ((k : Int) < 80) = true := by simp; omega
      have i0 : (0 : Int) ≤ (k : Int) := by omega
      have i1 : (k : Int) < (N : Int) := by omega
      have hk3 : k ≤ 80 := hk2
      rcases hfa with ⟨hle, hfa⟩ | ⟨hlt, hfa⟩
      · by_cases heq : (k : Int) = n
        · subst heq
          rw [Int.sub_self] at hfa
          have q1' : ((k : Int) == (k : Int)) = true := by simp
          obtain ⟨e1, e2⟩ := fa_fault hfa.out (by omega) y
          go_wp2_with fail
          refine (dk_append HO.out (hfa.out.sm.fits (by omega)) baA y (by decide) (by rw [hfa.out.file]; simp only; omega)).mono ?_
          rw [e1]
          rintro e w5 ⟨rfl, h5⟩
          have H5 := Lib.hid h5
          have E2 := Lib.hid e2
          clear h5 e1 e2
          generalize (D.append baA y).1 = D2 at *
          go_wp2_with fail
          refine (dk_down H5.out).mono ?_
          rw [E2.out.dn]
          rintro e w6 ⟨rfl, h6⟩
          have H6 := Lib.hid h6
          clear h6
          go_wp2_with fail
          go_roundw
          case rel => exact ⟨k + 1, D2, wb, by omega, by omega, by go_num, rfl, H6, hsz3, .inr ⟨by omega, E2⟩⟩
          case measure => simp [intOf]; omega
        · have q1 : decide ((k : Int) = n) = false := by simpa using heq
          have q1' : ((k : Int) == n) = false := by simpa using heq
          have q2 : decide ((k : Int) > n) = false := by simp; omega
          obtain ⟨e1, e2⟩ := fa_ok hfa.out (by omega) y
          rw [show max (-1) (n - (k : Int) - 1) = n - ((k + 1 : Nat) : Int) by omega, ← hwd] at e2
          go_wp2_with fail
          refine (dk_append HO.out (hfa.out.sm.fits (by omega)) baA y (by decide) (by rw [hfa.out.file]; simp only; omega)).mono ?_
          rw [e1]
          rintro e w5 ⟨rfl, h5⟩
          have H5 := Lib.hid h5
          have E2 := Lib.hid e2
          clear h5 e1 e2
          generalize (D.append baA y).1 = D2 at *
          have hc1 := HC.out _ H5.out.below
          go_wp2_with fail
          go_roundw
          case rel => exact ⟨k + 1, D2, wy, by omega, by omega, by go_num, rfl, H5, hsz2, .inl ⟨by omega, E2⟩⟩
          case measure => simp [intOf]; omega
      · have q1 : decide ((k : Int) = n) = false := by simp; omega
        have q1' : ((k : Int) == n) = false := by simp; omega
        have q2 : decide ((k : Int) > n) = true := by simp; omega
        obtain ⟨e1, e2⟩ := fa_ok hfa.out (by omega) y
        rw [show max (-1) ((-1 : Int) - 1) = -1 by omega, ← hwd] at e2
        go_wp2_with fail
        refine (dk_append HO.out (hfa.out.sm.fits (by omega)) baA y (by decide) (by rw [hfa.out.file]; simp only; omega)).mono ?_
        rw [e1]
        rintro e w5 ⟨rfl, h5⟩
        have H5 := Lib.hid h5
        have E2 := Lib.hid e2
        clear h5 e1 e2
        generalize (D.append baA y).1 = D2 at *
        have hc1 := HC.out _ H5.out.below
        go_wp2_with fail
        go_roundw
        case rel => exact ⟨k + 1, D2, wy, by omega, by omega, by go_num, rfl, H5, hsz2, .inr ⟨by omega, E2⟩⟩
        case measure => simp [intOf]; omega
    · have hfin : (∃ a, Hid (Fa D wb.data.toList a 14 false k)) := by
        rcases hfa with ⟨_, h⟩ | ⟨_, h⟩
        · exact ⟨_, h⟩
        · exact ⟨_, h⟩
      have hends : (decide ((k : Int) < (N : Int)) = false) ∨ (decide ((k : Int) < (N : Int)) = true ∧ decide ((k : Int) < 80) = false) := by
        simp
        omega
      have hrb : k * reachBytes ≤ 80 * reachBytes := Nat.mul_le_mul_right _ hk2
      have hwl : wb.data.toList.length = wb.size := (ba_size wb).symm
      have hlim : wb.size ≤ 4611686018427387904 := by unfold reachBytes at *; omega
      have z1 : (wb.toList == wb.toList) = true := by simp
      clear hfa hrb hsz
      obtain ⟨a, F⟩ := hfin
      rcases hends with g1 | ⟨g1, g2⟩
      · go_wp2_with fail
        all_goals
          refine (dk_down HO.out).mono ?_
          rw [F.out.dn]
          rintro e w5 ⟨rfl, h5⟩
          have H5 := Lib.hid h5
          clear h5
          go_wp2_with fail
          refine (dk_calm H5.out).mono ?_
          rintro e w6 ⟨rfl, h6⟩
          have H6 := Lib.hid h6
          clear h6
          obtain ⟨r1, r2, r3⟩ := fa_read F.out
          have hsm := fa_calm F.out
          generalize ({ D with armed := -1 } : DS Unit) = D2 at *
          go_wp2_with fail
          refine (dk_read H6.out baA (by decide)).mono ?_
          rw [r1, r2]
          rintro e w7 ⟨rfl, h7⟩
          have H7 := Lib.hid h7
          clear h7
          go_wp2_with fail
          refine (dk_create H7.out (hsm.fits (by omega)) bb (by decide)).mono ?_
          rw [r3]
          rintro e w8 ⟨rfl, h8⟩
          have H8 := Lib.hid h8
          clear h8
          go_wp2_with fail
          go_ret
          exact ⟨rfl, H8.out.below⟩
      · go_wp2_with fail
        all_goals
          refine (dk_down HO.out).mono ?_
          rw [F.out.dn]
          rintro e w5 ⟨rfl, h5⟩
          have H5 := Lib.hid h5
          clear h5
          go_wp2_with fail
          refine (dk_calm H5.out).mono ?_
          rintro e w6 ⟨rfl, h6⟩
          have H6 := Lib.hid h6
          clear h6
          obtain ⟨r1, r2, r3⟩ := fa_read F.out
          have hsm := fa_calm F.out
          generalize ({ D with armed := -1 } : DS Unit) = D2 at *
          go_wp2_with fail
          refine (dk_read H6.out baA (by decide)).mono ?_
          rw [r1, r2]
          rintro e w7 ⟨rfl, h7⟩
          have H7 := Lib.hid h7
          clear h7
          go_wp2_with fail
          refine (dk_create H7.out (hsm.fits (by omega)) bb (by decide)).mono ?_
          rw [r3]
          rintro e w8 ⟨rfl, h8⟩
          have H8 := Lib.hid h8
          clear h8
          go_wp2_with fail
          go_ret
          exact ⟨rfl, H8.out.below⟩
set_option maxRecDepth 100000 in
set_option maxHeartbeats 8000000 in
theorem faults_1 (w : World) (A : Option Addr) (N c : Nat) (x : Nat → ByteArray) (hin : TextsIn w A N c x) (n : Int) (hn : (Lit.int .i64 n).wf = true) (u : Int) (_ : 0 ≤ u) (_ : u ≤ 255) (hr : u.tmod 3 = 1) :
    Calls Try.prog 5 #[.slice A N c, .int .i64 n, .int .u8 u] w fun e w' => e = .returned (.bool true) ∧ Below w.heap.size w w' := by
  obtain ⟨hn0, hn1⟩ := bounds_i64 hn
  have HIN := Lib.hid hin
  have hNm := hin.nc
  have hNm2 := hin.cm
  clear hin hn
  unfold maxLen at hNm2
  go_enter Try.func5, Try.ntmps5
  go_wp2_with fail
  refine (dk_new Unit (brefl w)).mono ?_
  rintro e w1 ⟨rfl, h1⟩
  have H1 := Lib.hid h1
  clear h1
  generalize w.heap.size + 3 = p at *
  go_wp2_with fail
  refine (awake_any _).mono ?_
  rintro e w2 ⟨rfl, hb⟩
  have H2 := Lib.hid (H1.out.on (bcall (bnew (brefl w1) (.cells #[.int .i64 14, .int .i64 13, .int .i64 15] 25)) hb))
  clear hb H1
  go_wp2_with fail
  refine (dk_create H2.out ((small_new Unit).fits (by omega)) baA (by decide)).mono ?_
  rw [fz0_ok]
  rintro e w3 ⟨rfl, h⟩
  have H3 : Hid (Own w w3 p fz0) := h
  clear h H2
  by_cases hneg : n < 0
  · have q1 : decide (n < 0) = true := by simpa using hneg
    go_wp2_with fail
    refine (dk_arm_no H3.out n 13 hneg).mono ?_
    rintro e w4 ⟨rfl, h4⟩
    have H4 := Lib.hid h4
    clear h4
    go_wp2_with fail
    refine (dk_arm_no H4.out n 13 hneg).mono ?_
    rintro e w5 ⟨rfl, h5⟩
    have H5 := Lib.hid h5
    clear h5
    go_wp2_with fail
    go_ret
    exact ⟨rfl, H5.out.below⟩
  go_wp2_with fail
  refine (dk_arm H3.out n 13 (by omega) (by omega)).mono ?_
  rintro e w4 ⟨rfl, h⟩
  have H4 : Hid (Own w w4 p (arm fz0 n 13)) := h
  have F4 := Lib.hid (fa_new n 13 (by omega) hn1)
  clear h H3
  generalize arm fz0 n 13 = D0 at *
  go_wp2_with fail
  go_loopw [9, 10] (fun v i wr => ∃ (k : Nat) (D : DS Unit) (wb : ByteArray), k ≤ N ∧ k ≤ 80 ∧ i = .int .i64 k ∧ v = .string wb ∧ Hid (Own w wr p D) ∧ wb.size ≤ k * reachBytes ∧
    (((k : Int) ≤ n ∧ Hid (Fa D wb.data.toList (n - k) 13 false k)) ∨ (n < (k : Int) ∧ Hid (Fa D wb.data.toList (-1) 13 false k)))) (fun _ i _ => N - (intOf i).toNat)
  case atStart => exact ⟨0, D0, ⟨#[]⟩, Nat.zero_le _, Nat.zero_le _, rfl, rfl, H4, Nat.zero_le _, .inl ⟨by simp; omega, by simpa using F4⟩⟩
  case round =>
    obtain ⟨k, D, wb, hk, hk2, rfl, rfl, HO, hsz, hfa⟩ := hrel
    by_cases hgo : k < N ∧ k < 80
    · obtain ⟨hg1, hg2⟩ := hgo
      obtain ⟨b, off, hA, hb1, hcell⟩ := HIN.out.sl.at_ (show 0 < N by omega)
      subst hA
      obtain ⟨hx1, hx2⟩ := HIN.out.sz k hg1
      obtain ⟨y, hy⟩ : ∃ y, x k = y := ⟨_, rfl⟩
      have HC : Hid (∀ W : World, Below w.heap.size w W → W.cell? ⟨b, off + k, none⟩ = some (.string y)) := fun W h => by
        rw [← hy]
        exact (h.cell (p := ⟨b, off + k, none⟩) hb1).trans (hcell k (.string (x k)) (by simp [hg1]))
      have hc0 := HC.out _ HO.out.below
      rw [hy] at hx1 hx2
      clear hy hcell hb1
      have hrb : k * reachBytes ≤ 80 * reachBytes := Nat.mul_le_mul_right _ hk2
      have hrb2 : (k + 1) * reachBytes = k * reachBytes + reachBytes := Nat.succ_mul _ _
      have hcat : ∀ w : World, (Op.stringOp .add wb y).run Try.prog w = .ok (.string (wb ++ y)) w := fun w => run_string_add_sum w wb y (by unfold reachBytes at *; omega)
      have hwl : wb.data.toList.length = wb.size := (ba_size wb).symm
      have hws : (wb ++ y).size = wb.size + y.size := by rw [ba_size, ba_append, List.length_append, ← ba_size, ← ba_size]
      have hwd : (wb ++ y).data.toList = wb.data.toList ++ y.data.toList := ba_append wb y
      have hsz2 : (wb ++ y).size ≤ (k + 1) * reachBytes := by omega
      have hsz3 : wb.size ≤ (k + 1) * reachBytes := by omega
      have hsz4 : wb.size + y.size ≤ 9223372036854775807 := by unfold reachBytes at *; omega
      generalize wb ++ y = wy at *
      clear hrb hrb2 hsz hws
      generalize reachBytes = R at *
      have g1 : decide ((k : Int) < (N : Int)) = true := by simp; omega
      have g2 : decide ((k : Int) < 80) = true := by simp; omega
      have i0 : (0 : Int) ≤ (k : Int) := by omega
      have i1 : (k : Int) < (N : Int) := by omega
      have hk3 : k ≤ 80 := hk2
      rcases hfa with ⟨hle, hfa⟩ | ⟨hlt, hfa⟩
      · by_cases heq : (k : Int) = n
        · subst heq
          rw [Int.sub_self] at hfa
          have q1' : ((k : Int) == (k : Int)) = true := by simp
          obtain ⟨e1, e2⟩ := fa_fault hfa.out (by omega) y
          go_wp2_with fail
          refine (dk_append HO.out (hfa.out.sm.fits (by omega)) baA y (by decide) (by rw [hfa.out.file]; simp only; omega)).mono ?_
          rw [e1]
          rintro e w5 ⟨rfl, h5⟩
          have H5 := Lib.hid h5
          have E2 := Lib.hid e2
          clear h5 e1 e2
          generalize (D.append baA y).1 = D2 at *
          go_wp2_with fail
          refine (dk_down H5.out).mono ?_
          rw [E2.out.dn]
          rintro e w6 ⟨rfl, h6⟩
          have H6 := Lib.hid h6
          clear h6
          go_wp2_with fail
          go_roundw
          case rel => exact ⟨k + 1, D2, wb, by omega, by omega, by go_num, rfl, H6, hsz3, .inr ⟨by omega, E2⟩⟩
          case measure => simp [intOf]; omega
        · have q1 : decide ((k : Int) = n) = false := by simpa using heq
          have q1' : ((k : Int) == n) = false := by simpa using heq
          have q2 : decide ((k : Int) > n) = false := by simp; omega
          obtain ⟨e1, e2⟩ := fa_ok hfa.out (by omega) y
          rw [show max (-1) (n - (k : Int) - 1) = n - ((k + 1 : Nat) : Int) by omega, ← hwd] at e2
          go_wp2_with fail
          refine (dk_append HO.out (hfa.out.sm.fits (by omega)) baA y (by decide) (by rw [hfa.out.file]; simp only; omega)).mono ?_
          rw [e1]
          rintro e w5 ⟨rfl, h5⟩
          have H5 := Lib.hid h5
          have E2 := Lib.hid e2
          clear h5 e1 e2
          generalize (D.append baA y).1 = D2 at *
          have hc1 := HC.out _ H5.out.below
          go_wp2_with fail
          go_roundw
          case rel => exact ⟨k + 1, D2, wy, by omega, by omega, by go_num, rfl, H5, hsz2, .inl ⟨by omega, E2⟩⟩
          case measure => simp [intOf]; omega
      · have q1 : decide ((k : Int) = n) = false := by simp; omega
        have q1' : ((k : Int) == n) = false := by simp; omega
        have q2 : decide ((k : Int) > n) = true := by simp; omega
        obtain ⟨e1, e2⟩ := fa_ok hfa.out (by omega) y
        rw [show max (-1) ((-1 : Int) - 1) = -1 by omega, ← hwd] at e2
        go_wp2_with fail
        refine (dk_append HO.out (hfa.out.sm.fits (by omega)) baA y (by decide) (by rw [hfa.out.file]; simp only; omega)).mono ?_
        rw [e1]
        rintro e w5 ⟨rfl, h5⟩
        have H5 := Lib.hid h5
        have E2 := Lib.hid e2
        clear h5 e1 e2
        generalize (D.append baA y).1 = D2 at *
        have hc1 := HC.out _ H5.out.below
        go_wp2_with fail
        go_roundw
        case rel => exact ⟨k + 1, D2, wy, by omega, by omega, by go_num, rfl, H5, hsz2, .inr ⟨by omega, E2⟩⟩
        case measure => simp [intOf]; omega
    · have hfin : (∃ a, Hid (Fa D wb.data.toList a 13 false k)) := by
        rcases hfa with ⟨_, h⟩ | ⟨_, h⟩
        · exact ⟨_, h⟩
        · exact ⟨_, h⟩
      have hends : (decide ((k : Int) < (N : Int)) = false) ∨ (decide ((k : Int) < (N : Int)) = true ∧ decide ((k : Int) < 80) = false) := by
        simp
        omega
      have hrb : k * reachBytes ≤ 80 * reachBytes := Nat.mul_le_mul_right _ hk2
      have hwl : wb.data.toList.length = wb.size := (ba_size wb).symm
      have hlim : wb.size ≤ 4611686018427387904 := by unfold reachBytes at *; omega
      have z1 : (wb.toList == wb.toList) = true := by simp
      clear hfa hrb hsz
      obtain ⟨a, F⟩ := hfin
      rcases hends with g1 | ⟨g1, g2⟩
      · go_wp2_with fail
        all_goals
          refine (dk_down HO.out).mono ?_
          rw [F.out.dn]
          rintro e w5 ⟨rfl, h5⟩
          have H5 := Lib.hid h5
          clear h5
          go_wp2_with fail
          refine (dk_calm H5.out).mono ?_
          rintro e w6 ⟨rfl, h6⟩
          have H6 := Lib.hid h6
          clear h6
          obtain ⟨r1, r2, r3⟩ := fa_read F.out
          have hsm := fa_calm F.out
          generalize ({ D with armed := -1 } : DS Unit) = D2 at *
          go_wp2_with fail
          refine (dk_read H6.out baA (by decide)).mono ?_
          rw [r1, r2]
          rintro e w7 ⟨rfl, h7⟩
          have H7 := Lib.hid h7
          clear h7
          go_wp2_with fail
          refine (dk_create H7.out (hsm.fits (by omega)) bb (by decide)).mono ?_
          rw [r3]
          rintro e w8 ⟨rfl, h8⟩
          have H8 := Lib.hid h8
          clear h8
          go_wp2_with fail
          go_ret
          exact ⟨rfl, H8.out.below⟩
      · go_wp2_with fail
        all_goals
          refine (dk_down HO.out).mono ?_
          rw [F.out.dn]
          rintro e w5 ⟨rfl, h5⟩
          have H5 := Lib.hid h5
          clear h5
          go_wp2_with fail
          refine (dk_calm H5.out).mono ?_
          rintro e w6 ⟨rfl, h6⟩
          have H6 := Lib.hid h6
          clear h6
          obtain ⟨r1, r2, r3⟩ := fa_read F.out
          have hsm := fa_calm F.out
          generalize ({ D with armed := -1 } : DS Unit) = D2 at *
          go_wp2_with fail
          refine (dk_read H6.out baA (by decide)).mono ?_
          rw [r1, r2]
          rintro e w7 ⟨rfl, h7⟩
          have H7 := Lib.hid h7
          clear h7
          go_wp2_with fail
          refine (dk_create H7.out (hsm.fits (by omega)) bb (by decide)).mono ?_
          rw [r3]
          rintro e w8 ⟨rfl, h8⟩
          have H8 := Lib.hid h8
          clear h8
          go_wp2_with fail
          go_ret
          exact ⟨rfl, H8.out.below⟩
set_option maxRecDepth 100000 in
set_option maxHeartbeats 8000000 in
theorem faults_2 (w : World) (A : Option Addr) (N c : Nat) (x : Nat → ByteArray) (hin : TextsIn w A N c x) (n : Int) (hn : (Lit.int .i64 n).wf = true) (u : Int) (_ : 0 ≤ u) (_ : u ≤ 255) (hr : u.tmod 3 = 2) :
    Calls Try.prog 5 #[.slice A N c, .int .i64 n, .int .u8 u] w fun e w' => e = .returned (.bool true) ∧ Below w.heap.size w w' := by
  obtain ⟨hn0, hn1⟩ := bounds_i64 hn
  have HIN := Lib.hid hin
  have hNm := hin.nc
  have hNm2 := hin.cm
  clear hin hn
  unfold maxLen at hNm2
  go_enter Try.func5, Try.ntmps5
  go_wp2_with fail
  refine (dk_new Unit (brefl w)).mono ?_
  rintro e w1 ⟨rfl, h1⟩
  have H1 := Lib.hid h1
  clear h1
  generalize w.heap.size + 3 = p at *
  go_wp2_with fail
  refine (awake_any _).mono ?_
  rintro e w2 ⟨rfl, hb⟩
  have H2 := Lib.hid (H1.out.on (bcall (bnew (brefl w1) (.cells #[.int .i64 14, .int .i64 13, .int .i64 15] 25)) hb))
  clear hb H1
  go_wp2_with fail
  refine (dk_create H2.out ((small_new Unit).fits (by omega)) baA (by decide)).mono ?_
  rw [fz0_ok]
  rintro e w3 ⟨rfl, h⟩
  have H3 : Hid (Own w w3 p fz0) := h
  clear h H2
  by_cases hneg : n < 0
  · have q1 : decide (n < 0) = true := by simpa using hneg
    go_wp2_with fail
    refine (dk_arm_no H3.out n 15 hneg).mono ?_
    rintro e w4 ⟨rfl, h4⟩
    have H4 := Lib.hid h4
    clear h4
    go_wp2_with fail
    refine (dk_arm_no H4.out n 15 hneg).mono ?_
    rintro e w5 ⟨rfl, h5⟩
    have H5 := Lib.hid h5
    clear h5
    go_wp2_with fail
    go_ret
    exact ⟨rfl, H5.out.below⟩
  go_wp2_with fail
  refine (dk_arm H3.out n 15 (by omega) (by omega)).mono ?_
  rintro e w4 ⟨rfl, h⟩
  have H4 : Hid (Own w w4 p (arm fz0 n 15)) := h
  have F4 := Lib.hid (fa_new n 15 (by omega) hn1)
  clear h H3
  generalize arm fz0 n 15 = D0 at *
  go_wp2_with fail
  go_loopw [9, 10] (fun v i wr => ∃ (k : Nat) (D : DS Unit) (wb : ByteArray), k ≤ N ∧ k ≤ 80 ∧ i = .int .i64 k ∧ v = .string wb ∧ Hid (Own w wr p D) ∧ wb.size ≤ k * reachBytes ∧
    (((k : Int) ≤ n ∧ Hid (Fa D wb.data.toList (n - k) 15 false k)) ∨ (n < (k : Int) ∧ Hid (Fa D wb.data.toList (-1) 15 true k)))) (fun _ i _ => N - (intOf i).toNat)
  case atStart => exact ⟨0, D0, ⟨#[]⟩, Nat.zero_le _, Nat.zero_le _, rfl, rfl, H4, Nat.zero_le _, .inl ⟨by simp; omega, by simpa using F4⟩⟩
  case round =>
    obtain ⟨k, D, wb, hk, hk2, rfl, rfl, HO, hsz, hfa⟩ := hrel
    by_cases hgo : k < N ∧ k < 80
    · obtain ⟨hg1, hg2⟩ := hgo
      obtain ⟨b, off, hA, hb1, hcell⟩ := HIN.out.sl.at_ (show 0 < N by omega)
      subst hA
      obtain ⟨hx1, hx2⟩ := HIN.out.sz k hg1
      obtain ⟨y, hy⟩ : ∃ y, x k = y := ⟨_, rfl⟩
      have HC : Hid (∀ W : World, Below w.heap.size w W → W.cell? ⟨b, off + k, none⟩ = some (.string y)) := fun W h => by
        rw [← hy]
        exact (h.cell (p := ⟨b, off + k, none⟩) hb1).trans (hcell k (.string (x k)) (by simp [hg1]))
      have hc0 := HC.out _ HO.out.below
      rw [hy] at hx1 hx2
      clear hy hcell hb1
      have hrb : k * reachBytes ≤ 80 * reachBytes := Nat.mul_le_mul_right _ hk2
      have hrb2 : (k + 1) * reachBytes = k * reachBytes + reachBytes := Nat.succ_mul _ _
      have hcat : ∀ w : World, (Op.stringOp .add wb y).run Try.prog w = .ok (.string (wb ++ y)) w := fun w => run_string_add_sum w wb y (by unfold reachBytes at *; omega)
      have hwl : wb.data.toList.length = wb.size := (ba_size wb).symm
      have hws : (wb ++ y).size = wb.size + y.size := by rw [ba_size, ba_append, List.length_append, ← ba_size, ← ba_size]
      have hwd : (wb ++ y).data.toList = wb.data.toList ++ y.data.toList := ba_append wb y
      have hsz2 : (wb ++ y).size ≤ (k + 1) * reachBytes := by omega
      have hsz3 : wb.size ≤ (k + 1) * reachBytes := by omega
      have hsz4 : wb.size + y.size ≤ 9223372036854775807 := by unfold reachBytes at *; omega
      generalize wb ++ y = wy at *
      clear hrb hrb2 hsz hws
      generalize reachBytes = R at *
      have g1 : decide ((k : Int) < (N : Int)) = true := by simp; omega
      have g2 : decide ((k : Int) < 80) = true := by simp; omega
      have i0 : (0 : Int) ≤ (k : Int) := by omega
      have i1 : (k : Int) < (N : Int) := by omega
      have hk3 : k ≤ 80 := hk2
      rcases hfa with ⟨hle, hfa⟩ | ⟨hlt, hfa⟩
      · by_cases heq : (k : Int) = n
        · subst heq
          rw [Int.sub_self] at hfa
          have q1' : ((k : Int) == (k : Int)) = true := by simp
          obtain ⟨e1, e2⟩ := fa_fault hfa.out (by omega) y
          go_wp2_with fail
          refine (dk_append HO.out (hfa.out.sm.fits (by omega)) baA y (by decide) (by rw [hfa.out.file]; simp only; omega)).mono ?_
          rw [e1]
          rintro e w5 ⟨rfl, h5⟩
          have H5 := Lib.hid h5
          have E2 := Lib.hid e2
          clear h5 e1 e2
          generalize (D.append baA y).1 = D2 at *
          go_wp2_with fail
          refine (dk_down H5.out).mono ?_
          rw [E2.out.dn]
          rintro e w6 ⟨rfl, h6⟩
          have H6 := Lib.hid h6
          clear h6
          go_wp2_with fail
          go_roundw
          case rel => exact ⟨k + 1, D2, wb, by omega, by omega, by go_num, rfl, H6, hsz3, .inr ⟨by omega, E2⟩⟩
          case measure => simp [intOf]; omega
        · have q1 : decide ((k : Int) = n) = false := by simpa using heq
          have q1' : ((k : Int) == n) = false := by simpa using heq
          have q2 : decide ((k : Int) > n) = false := by simp; omega
          obtain ⟨e1, e2⟩ := fa_ok hfa.out (by omega) y
          rw [show max (-1) (n - (k : Int) - 1) = n - ((k + 1 : Nat) : Int) by omega, ← hwd] at e2
          go_wp2_with fail
          refine (dk_append HO.out (hfa.out.sm.fits (by omega)) baA y (by decide) (by rw [hfa.out.file]; simp only; omega)).mono ?_
          rw [e1]
          rintro e w5 ⟨rfl, h5⟩
          have H5 := Lib.hid h5
          have E2 := Lib.hid e2
          clear h5 e1 e2
          generalize (D.append baA y).1 = D2 at *
          have hc1 := HC.out _ H5.out.below
          go_wp2_with fail
          go_roundw
          case rel => exact ⟨k + 1, D2, wy, by omega, by omega, by go_num, rfl, H5, hsz2, .inl ⟨by omega, E2⟩⟩
          case measure => simp [intOf]; omega
      · have q1 : decide ((k : Int) = n) = false := by simp; omega
        have q1' : ((k : Int) == n) = false := by simp; omega
        have q2 : decide ((k : Int) > n) = true := by simp; omega
        have e1 := fa_down hfa.out y
        go_wp2_with fail
        refine (dk_append HO.out (hfa.out.sm.fits (by omega)) baA y (by decide) (by rw [hfa.out.file]; simp only; omega)).mono ?_
        rw [e1]
        rintro e w5 ⟨rfl, h5⟩
        have H5 := Lib.hid h5
        have E2 : Hid (Fa D wb.data.toList (-1) 15 true (k + 1)) := Lib.hid ⟨hfa.out.nm, hfa.out.fl, hfa.out.ar, hfa.out.fa, hfa.out.dn, hfa.out.sm.more (by omega)⟩
        clear h5 e1
        go_wp2_with fail
        go_roundw
        case rel => exact ⟨k + 1, D, wb, by omega, by omega, by go_num, rfl, H5, hsz3, .inr ⟨by omega, E2⟩⟩
        case measure => simp [intOf]; omega
    · have hfin : (∃ a, Hid (Fa D wb.data.toList a 15 false k)) ∨ Hid (Fa D wb.data.toList (-1) 15 true k) := by
        rcases hfa with ⟨_, h⟩ | ⟨_, h⟩
        · exact .inl ⟨_, h⟩
        · exact .inr h
      have hends : (decide ((k : Int) < (N : Int)) = false) ∨ (decide ((k : Int) < (N : Int)) = true ∧ decide ((k : Int) < 80) = false) := by
        simp
        omega
      have hrb : k * reachBytes ≤ 80 * reachBytes := Nat.mul_le_mul_right _ hk2
      have hwl : wb.data.toList.length = wb.size := (ba_size wb).symm
      have hlim : wb.size ≤ 4611686018427387904 := by unfold reachBytes at *; omega
      have z1 : (wb.toList == wb.toList) = true := by simp
      clear hfa hrb hsz
      rcases hfin with ⟨a, F⟩ | F
      · rcases hends with g1 | ⟨g1, g2⟩
        · go_wp2_with fail
          all_goals
            refine (dk_down HO.out).mono ?_
            rw [F.out.dn]
            rintro e w5 ⟨rfl, h5⟩
            have H5 := Lib.hid h5
            clear h5
            go_wp2_with fail
            refine (dk_calm H5.out).mono ?_
            rintro e w6 ⟨rfl, h6⟩
            have H6 := Lib.hid h6
            clear h6
            obtain ⟨r1, r2, r3⟩ := fa_read F.out
            have hsm := fa_calm F.out
            generalize ({ D with armed := -1 } : DS Unit) = D2 at *
            go_wp2_with fail
            refine (dk_read H6.out baA (by decide)).mono ?_
            rw [r1, r2]
            rintro e w7 ⟨rfl, h7⟩
            have H7 := Lib.hid h7
            clear h7
            go_wp2_with fail
            refine (dk_create H7.out (hsm.fits (by omega)) bb (by decide)).mono ?_
            rw [r3]
            rintro e w8 ⟨rfl, h8⟩
            have H8 := Lib.hid h8
            clear h8
            go_wp2_with fail
            go_ret
            exact ⟨rfl, H8.out.below⟩
        · go_wp2_with fail
          all_goals
            refine (dk_down HO.out).mono ?_
            rw [F.out.dn]
            rintro e w5 ⟨rfl, h5⟩
            have H5 := Lib.hid h5
            clear h5
            go_wp2_with fail
            refine (dk_calm H5.out).mono ?_
            rintro e w6 ⟨rfl, h6⟩
            have H6 := Lib.hid h6
            clear h6
            obtain ⟨r1, r2, r3⟩ := fa_read F.out
            have hsm := fa_calm F.out
            generalize ({ D with armed := -1 } : DS Unit) = D2 at *
            go_wp2_with fail
            refine (dk_read H6.out baA (by decide)).mono ?_
            rw [r1, r2]
            rintro e w7 ⟨rfl, h7⟩
            have H7 := Lib.hid h7
            clear h7
            go_wp2_with fail
            refine (dk_create H7.out (hsm.fits (by omega)) bb (by decide)).mono ?_
            rw [r3]
            rintro e w8 ⟨rfl, h8⟩
            have H8 := Lib.hid h8
            clear h8
            go_wp2_with fail
            go_ret
            exact ⟨rfl, H8.out.below⟩
      · rcases hends with g1 | ⟨g1, g2⟩
        · go_wp2_with fail
          all_goals
            refine (dk_down HO.out).mono ?_
            rw [F.out.dn]
            rintro e w5 ⟨rfl, h5⟩
            have H5 := Lib.hid h5
            clear h5
            obtain ⟨r1, r2, r3⟩ := fa_dead F.out
            have hsm := F.out.sm
            have hgood := F.out.good
            go_wp2_with fail
            refine (dk_list_down H5.out F.out.dn).mono ?_
            rintro e w6 ⟨rfl, h6⟩
            have H6 := Lib.hid h6
            clear h6
            go_wp2_with fail
            refine (dk_create H6.out (hsm.fits (by omega)) bb (by decide)).mono ?_
            rw [r1]
            rintro e w7 ⟨rfl, h7⟩
            have H7 := Lib.hid h7
            clear h7
            go_wp2_with fail
            refine (dk_syncDir H7.out (hsm.fits (by omega))).mono ?_
            rw [r2]
            rintro e w8 ⟨rfl, h8⟩
            have H8 := Lib.hid h8
            clear h8
            go_wp2_with fail
            refine (dk_restart H8.out 0 (by have := hsm.c1; omega) (hgood.sure (by omega))).mono ?_
            rintro e w9 ⟨rfl, h9⟩
            have H9 := Lib.hid h9
            clear h9
            go_wp2_with fail
            refine (dk_down H9.out).mono ?_
            rw [r3]
            rintro e w10 ⟨rfl, h10⟩
            have H10 := Lib.hid h10
            clear h10
            go_wp2_with fail
            go_ret
            exact ⟨rfl, H10.out.below⟩
        · go_wp2_with fail
          all_goals
            refine (dk_down HO.out).mono ?_
            rw [F.out.dn]
            rintro e w5 ⟨rfl, h5⟩
            have H5 := Lib.hid h5
            clear h5
            obtain ⟨r1, r2, r3⟩ := fa_dead F.out
            have hsm := F.out.sm
            have hgood := F.out.good
            go_wp2_with fail
            refine (dk_list_down H5.out F.out.dn).mono ?_
            rintro e w6 ⟨rfl, h6⟩
            have H6 := Lib.hid h6
            clear h6
            go_wp2_with fail
            refine (dk_create H6.out (hsm.fits (by omega)) bb (by decide)).mono ?_
            rw [r1]
            rintro e w7 ⟨rfl, h7⟩
            have H7 := Lib.hid h7
            clear h7
            go_wp2_with fail
            refine (dk_syncDir H7.out (hsm.fits (by omega))).mono ?_
            rw [r2]
            rintro e w8 ⟨rfl, h8⟩
            have H8 := Lib.hid h8
            clear h8
            go_wp2_with fail
            refine (dk_restart H8.out 0 (by have := hsm.c1; omega) (hgood.sure (by omega))).mono ?_
            rintro e w9 ⟨rfl, h9⟩
            have H9 := Lib.hid h9
            clear h9
            go_wp2_with fail
            refine (dk_down H9.out).mono ?_
            rw [r3]
            rintro e w10 ⟨rfl, h10⟩
            have H10 := Lib.hid h10
            clear h10
            go_wp2_with fail
            go_ret
            exact ⟨rfl, H10.out.below⟩
theorem faults_walk (w : World) (A : Option Addr) (N c : Nat) (x : Nat → ByteArray) (hin : TextsIn w A N c x) (n : Int) (hn : (Lit.int .i64 n).wf = true) (u : Int) (hu : (Lit.int .u8 u).wf = true) :
    Calls Try.prog 5 #[.slice A N c, .int .i64 n, .int .u8 u] w fun e w' => e = .returned (.bool true) ∧ Below w.heap.size w w' := by
  have hb := bounds_u8 hu
  have h3 : u.tmod 3 = 0 ∨ u.tmod 3 = 1 ∨ u.tmod 3 = 2 := by
    rw [Int.tmod_eq_emod_of_nonneg hb.1]
    omega
  rcases h3 with h | h | h
  · exact faults_0 w A N c x hin n hn u hb.1 hb.2 h
  · exact faults_1 w A N c x hin n hn u hb.1 hb.2 h
  · exact faults_2 w A N c x hin n hn u hb.1 hb.2 h
end Go.Proofs.Ytfiphjhpjaddcaa
