/- The walk of VfsCommits. -/
import Derived.Test.YtfiphjhpjaddcaaCommits
namespace Go.Proofs.Ytfiphjhpjaddcaa
open Go.RowKit Go.Maps Go.Sort

set_option maxRecDepth 100000 in
set_option maxHeartbeats 8000000 in
theorem commits_0 (w : World) (o : ByteArray) (_ : o.size ≤ maxLen) (ho2 : o.data.toList.length ≤ reachBytes) (t : ByteArray) (_ : t.size ≤ maxLen) (ht2 : t.data.toList.length ≤ reachBytes) (n : Int) (hn : (Lit.int .i64 n).wf = true) (loss : Int) (hj : n = 0) :
    Calls Try.prog 4 #[.string o, .string t, .int .i64 n, .int .i64 loss] w fun e w' => e = .returned (.bool true) ∧ Below w.heap.size w w' := by
  rw [← ba_size] at ho2 ht2
  unfold reachBytes at ho2 ht2
  obtain ⟨hn0, hn1⟩ := bounds_i64 hn
  have CP := Lib.hid (commits_plain o t loss)
  subst hj
  go_enter Try.func4, Try.ntmps4
  go_wp2_with fail
  refine (dk_new Unit (brefl w)).mono ?_
  rintro e w1 ⟨rfl, h1⟩
  have H1 := Lib.hid h1
  clear h1
  generalize w.heap.size + 3 = p at *
  go_wp2_with fail
  refine (awake_any _).mono ?_
  rintro e w2 ⟨rfl, hb⟩
  have H2 := Lib.hid (H1.out.on hb)
  clear hb
  go_wp2_with fail
  refine (dk_create H2.out ((small_new Unit).fits (by omega)) bx (by decide)).mono ?_
  rw [cc1]
  rintro e w3 ⟨rfl, h⟩
  have H3 : Hid (Own w w3 p (cm1 o t)) := h
  clear h
  go_wp2_with fail
  refine (dk_append H3.out ((cs1 o t).fits (by omega)) bx o (by decide) (by have := ((cg1 o t).fs (numOf (cm1 o t).names bx)).2.2; omega)).mono ?_
  rw [cc2 o t]
  rintro e w4 ⟨rfl, h⟩
  have H4 : Hid (Own w w4 p (cm2 o t)) := h
  clear h
  go_wp2_with fail
  refine (dk_sync H4.out ((cs2 o t).fits (by omega)) bx (by decide)).mono ?_
  rw [cc3 o t]
  rintro e w5 ⟨rfl, h⟩
  have H5 : Hid (Own w w5 p (cm3 o t)) := h
  clear h
  go_wp2_with fail
  refine (dk_syncDir H5.out ((cs3 o t).fits (by omega))).mono ?_
  rw [cc4 o t]
  rintro e w6 ⟨rfl, h⟩
  have H6 : Hid (Own w w6 p (cu0 o t)) := h
  clear h
  have q1 : decide ((0 : Int) < 0) = false := by decide
  go_wp2_with fail
  refine (dk_arm' H6.out (0 : Int) 15 (by omega) (by omega)).mono ?_
  rintro e w7 ⟨rfl, h⟩
  have H7 : Hid (Own w w7 p (arm (cu0 o t) (0 : Int) 15)) := h
  clear h
  go_wp2_with fail
  refine (dk_create (D := arm (cu0 o t) 0 15) H7.out ((small_arm (ct0 o t) (by omega) (by omega)).fits (by omega)) bt (by decide)).mono ?_
  rw [cy0]
  rintro e w8 ⟨rfl, h⟩
  have H8 : Hid (Own w w8 p (cf0 o t)) := h
  clear h
  have hcap := (cp0 o t).c1
  have hsure := (ci0 o t).sure (by omega)
  obtain ⟨a0, a1⟩ := CP.out.1 (cf0 o t) (by simp)
  go_wp2_with fail
  refine (dk_restart H8.out loss (by omega) hsure).mono ?_
  rintro e w9 ⟨rfl, h⟩
  generalize DS.restart (cf0 o t) loss = D at *
  have H9 := Lib.hid h
  have RA := Lib.hid (fun (wz : World) (h : Own w wz p D) => dk_read h bx (by decide))
  generalize readS D bx = sa at *
  rw [a0] at RA
  clear h hcap hsure CP
  go_wp2_with fail
  refine (RA.out _ H9.out).mono ?_
  rintro e wa ⟨rfl, h⟩
  have HA := Lib.hid h
  clear h RA
  subst sa
  have q8 : (o.toList == o.toList) = true := by simp
  have q9 : (t.toList == t.toList) = true := by simp
  go_wp2_with fail
  all_goals
    go_ret
    exact ⟨rfl, HA.out.below⟩
set_option maxRecDepth 100000 in
set_option maxHeartbeats 8000000 in
theorem commits_1 (w : World) (o : ByteArray) (_ : o.size ≤ maxLen) (ho2 : o.data.toList.length ≤ reachBytes) (t : ByteArray) (_ : t.size ≤ maxLen) (ht2 : t.data.toList.length ≤ reachBytes) (n : Int) (hn : (Lit.int .i64 n).wf = true) (loss : Int) (hj : n = 1) :
    Calls Try.prog 4 #[.string o, .string t, .int .i64 n, .int .i64 loss] w fun e w' => e = .returned (.bool true) ∧ Below w.heap.size w w' := by
  rw [← ba_size] at ho2 ht2
  unfold reachBytes at ho2 ht2
  obtain ⟨hn0, hn1⟩ := bounds_i64 hn
  have CP := Lib.hid (commits_plain o t loss)
  subst hj
  go_enter Try.func4, Try.ntmps4
  go_wp2_with fail
  refine (dk_new Unit (brefl w)).mono ?_
  rintro e w1 ⟨rfl, h1⟩
  have H1 := Lib.hid h1
  clear h1
  generalize w.heap.size + 3 = p at *
  go_wp2_with fail
  refine (awake_any _).mono ?_
  rintro e w2 ⟨rfl, hb⟩
  have H2 := Lib.hid (H1.out.on hb)
  clear hb
  go_wp2_with fail
  refine (dk_create H2.out ((small_new Unit).fits (by omega)) bx (by decide)).mono ?_
  rw [cc1]
  rintro e w3 ⟨rfl, h⟩
  have H3 : Hid (Own w w3 p (cm1 o t)) := h
  clear h
  go_wp2_with fail
  refine (dk_append H3.out ((cs1 o t).fits (by omega)) bx o (by decide) (by have := ((cg1 o t).fs (numOf (cm1 o t).names bx)).2.2; omega)).mono ?_
  rw [cc2 o t]
  rintro e w4 ⟨rfl, h⟩
  have H4 : Hid (Own w w4 p (cm2 o t)) := h
  clear h
  go_wp2_with fail
  refine (dk_sync H4.out ((cs2 o t).fits (by omega)) bx (by decide)).mono ?_
  rw [cc3 o t]
  rintro e w5 ⟨rfl, h⟩
  have H5 : Hid (Own w w5 p (cm3 o t)) := h
  clear h
  go_wp2_with fail
  refine (dk_syncDir H5.out ((cs3 o t).fits (by omega))).mono ?_
  rw [cc4 o t]
  rintro e w6 ⟨rfl, h⟩
  have H6 : Hid (Own w w6 p (cu0 o t)) := h
  clear h
  have q1 : decide ((1 : Int) < 0) = false := by decide
  go_wp2_with fail
  refine (dk_arm' H6.out (1 : Int) 15 (by omega) (by omega)).mono ?_
  rintro e w7 ⟨rfl, h⟩
  have H7 : Hid (Own w w7 p (arm (cu0 o t) (1 : Int) 15)) := h
  clear h
  go_wp2_with fail
  refine (dk_create H7.out ((small_arm (ct0 o t) (by omega) (by omega)).fits (by omega)) bt (by decide)).mono ?_
  rw [cz1 o t (by omega)]
  rintro e w8 ⟨rfl, h⟩
  have H8 : Hid (Own w w8 p (arm (cu1 o t) (1 - 1) 15)) := h
  clear h
  have H8' : Hid (Own w w8 p (arm (cu1 o t) 0 15)) := H8
  clear H8
  have H8 := H8'
  go_wp2_with fail
  refine (dk_append (D := arm (cu1 o t) 0 15) H8.out ((small_arm (ct1 o t) (by omega) (by omega)).fits (by omega)) bt t (by decide) (by have := ((good_arm (ch1 o t) (a := 0) (f := 15)).fs (numOf (arm (cu1 o t) (0) 15).names bt)).2.2; omega)).mono ?_
  rw [cy1]
  rintro e w9 ⟨rfl, h⟩
  have H9 : Hid (Own w w9 p (cf1 o t)) := h
  clear h
  have hcap := (cp1 o t).c1
  have hsure := (ci1 o t).sure (by omega)
  obtain ⟨a0, a1⟩ := CP.out.1 (cf1 o t) (by simp)
  go_wp2_with fail
  refine (dk_restart H9.out loss (by omega) hsure).mono ?_
  rintro e w10 ⟨rfl, h⟩
  generalize DS.restart (cf1 o t) loss = D at *
  have H10 := Lib.hid h
  have RA := Lib.hid (fun (wz : World) (h : Own w wz p D) => dk_read h bx (by decide))
  generalize readS D bx = sa at *
  rw [a0] at RA
  clear h hcap hsure CP
  go_wp2_with fail
  refine (RA.out _ H10.out).mono ?_
  rintro e wa ⟨rfl, h⟩
  have HA := Lib.hid h
  clear h RA
  subst sa
  have q8 : (o.toList == o.toList) = true := by simp
  have q9 : (t.toList == t.toList) = true := by simp
  go_wp2_with fail
  all_goals
    go_ret
    exact ⟨rfl, HA.out.below⟩
set_option maxRecDepth 100000 in
set_option maxHeartbeats 8000000 in
theorem commits_2 (w : World) (o : ByteArray) (_ : o.size ≤ maxLen) (ho2 : o.data.toList.length ≤ reachBytes) (t : ByteArray) (_ : t.size ≤ maxLen) (ht2 : t.data.toList.length ≤ reachBytes) (n : Int) (hn : (Lit.int .i64 n).wf = true) (loss : Int) (hj : n = 2) :
    Calls Try.prog 4 #[.string o, .string t, .int .i64 n, .int .i64 loss] w fun e w' => e = .returned (.bool true) ∧ Below w.heap.size w w' := by
  rw [← ba_size] at ho2 ht2
  unfold reachBytes at ho2 ht2
  obtain ⟨hn0, hn1⟩ := bounds_i64 hn
  have CP := Lib.hid (commits_plain o t loss)
  subst hj
  go_enter Try.func4, Try.ntmps4
  go_wp2_with fail
  refine (dk_new Unit (brefl w)).mono ?_
  rintro e w1 ⟨rfl, h1⟩
  have H1 := Lib.hid h1
  clear h1
  generalize w.heap.size + 3 = p at *
  go_wp2_with fail
  refine (awake_any _).mono ?_
  rintro e w2 ⟨rfl, hb⟩
  have H2 := Lib.hid (H1.out.on hb)
  clear hb
  go_wp2_with fail
  refine (dk_create H2.out ((small_new Unit).fits (by omega)) bx (by decide)).mono ?_
  rw [cc1]
  rintro e w3 ⟨rfl, h⟩
  have H3 : Hid (Own w w3 p (cm1 o t)) := h
  clear h
  go_wp2_with fail
  refine (dk_append H3.out ((cs1 o t).fits (by omega)) bx o (by decide) (by have := ((cg1 o t).fs (numOf (cm1 o t).names bx)).2.2; omega)).mono ?_
  rw [cc2 o t]
  rintro e w4 ⟨rfl, h⟩
  have H4 : Hid (Own w w4 p (cm2 o t)) := h
  clear h
  go_wp2_with fail
  refine (dk_sync H4.out ((cs2 o t).fits (by omega)) bx (by decide)).mono ?_
  rw [cc3 o t]
  rintro e w5 ⟨rfl, h⟩
  have H5 : Hid (Own w w5 p (cm3 o t)) := h
  clear h
  go_wp2_with fail
  refine (dk_syncDir H5.out ((cs3 o t).fits (by omega))).mono ?_
  rw [cc4 o t]
  rintro e w6 ⟨rfl, h⟩
  have H6 : Hid (Own w w6 p (cu0 o t)) := h
  clear h
  have q1 : decide ((2 : Int) < 0) = false := by decide
  go_wp2_with fail
  refine (dk_arm' H6.out (2 : Int) 15 (by omega) (by omega)).mono ?_
  rintro e w7 ⟨rfl, h⟩
  have H7 : Hid (Own w w7 p (arm (cu0 o t) (2 : Int) 15)) := h
  clear h
  go_wp2_with fail
  refine (dk_create H7.out ((small_arm (ct0 o t) (by omega) (by omega)).fits (by omega)) bt (by decide)).mono ?_
  rw [cz1 o t (by omega)]
  rintro e w8 ⟨rfl, h⟩
  have H8 : Hid (Own w w8 p (arm (cu1 o t) (2 - 1) 15)) := h
  clear h
  go_wp2_with fail
  refine (dk_append H8.out ((small_arm (ct1 o t) (by omega) (by omega)).fits (by omega)) bt t (by decide) (by have := ((good_arm (ch1 o t) (a := 2 - 1) (f := 15)).fs (numOf (arm (cu1 o t) (2 - 1) 15).names bt)).2.2; omega)).mono ?_
  rw [cz2 o t (by omega)]
  rintro e w9 ⟨rfl, h⟩
  have H9 : Hid (Own w w9 p (arm (cu2 o t) (2 - 1 - 1) 15)) := h
  clear h
  have H9' : Hid (Own w w9 p (arm (cu2 o t) 0 15)) := H9
  clear H9
  have H9 := H9'
  go_wp2_with fail
  refine (dk_sync (D := arm (cu2 o t) 0 15) H9.out ((small_arm (ct2 o t) (by omega) (by omega)).fits (by omega)) bt (by decide)).mono ?_
  rw [cy2]
  rintro e w10 ⟨rfl, h⟩
  have H10 : Hid (Own w w10 p (cf2 o t)) := h
  clear h
  have hcap := (cp2 o t).c1
  have hsure := (ci2 o t).sure (by omega)
  obtain ⟨a0, a1⟩ := CP.out.1 (cf2 o t) (by simp)
  go_wp2_with fail
  refine (dk_restart H10.out loss (by omega) hsure).mono ?_
  rintro e w11 ⟨rfl, h⟩
  generalize DS.restart (cf2 o t) loss = D at *
  have H11 := Lib.hid h
  have RA := Lib.hid (fun (wz : World) (h : Own w wz p D) => dk_read h bx (by decide))
  generalize readS D bx = sa at *
  rw [a0] at RA
  clear h hcap hsure CP
  go_wp2_with fail
  refine (RA.out _ H11.out).mono ?_
  rintro e wa ⟨rfl, h⟩
  have HA := Lib.hid h
  clear h RA
  subst sa
  have q8 : (o.toList == o.toList) = true := by simp
  have q9 : (t.toList == t.toList) = true := by simp
  go_wp2_with fail
  all_goals
    go_ret
    exact ⟨rfl, HA.out.below⟩
set_option maxRecDepth 100000 in
set_option maxHeartbeats 8000000 in
theorem commits_3 (w : World) (o : ByteArray) (_ : o.size ≤ maxLen) (ho2 : o.data.toList.length ≤ reachBytes) (t : ByteArray) (_ : t.size ≤ maxLen) (ht2 : t.data.toList.length ≤ reachBytes) (n : Int) (hn : (Lit.int .i64 n).wf = true) (loss : Int) (hj : n = 3) :
    Calls Try.prog 4 #[.string o, .string t, .int .i64 n, .int .i64 loss] w fun e w' => e = .returned (.bool true) ∧ Below w.heap.size w w' := by
  rw [← ba_size] at ho2 ht2
  unfold reachBytes at ho2 ht2
  obtain ⟨hn0, hn1⟩ := bounds_i64 hn
  have CP := Lib.hid (commits_plain o t loss)
  subst hj
  go_enter Try.func4, Try.ntmps4
  go_wp2_with fail
  refine (dk_new Unit (brefl w)).mono ?_
  rintro e w1 ⟨rfl, h1⟩
  have H1 := Lib.hid h1
  clear h1
  generalize w.heap.size + 3 = p at *
  go_wp2_with fail
  refine (awake_any _).mono ?_
  rintro e w2 ⟨rfl, hb⟩
  have H2 := Lib.hid (H1.out.on hb)
  clear hb
  go_wp2_with fail
  refine (dk_create H2.out ((small_new Unit).fits (by omega)) bx (by decide)).mono ?_
  rw [cc1]
  rintro e w3 ⟨rfl, h⟩
  have H3 : Hid (Own w w3 p (cm1 o t)) := h
  clear h
  go_wp2_with fail
  refine (dk_append H3.out ((cs1 o t).fits (by omega)) bx o (by decide) (by have := ((cg1 o t).fs (numOf (cm1 o t).names bx)).2.2; omega)).mono ?_
  rw [cc2 o t]
  rintro e w4 ⟨rfl, h⟩
  have H4 : Hid (Own w w4 p (cm2 o t)) := h
  clear h
  go_wp2_with fail
  refine (dk_sync H4.out ((cs2 o t).fits (by omega)) bx (by decide)).mono ?_
  rw [cc3 o t]
  rintro e w5 ⟨rfl, h⟩
  have H5 : Hid (Own w w5 p (cm3 o t)) := h
  clear h
  go_wp2_with fail
  refine (dk_syncDir H5.out ((cs3 o t).fits (by omega))).mono ?_
  rw [cc4 o t]
  rintro e w6 ⟨rfl, h⟩
  have H6 : Hid (Own w w6 p (cu0 o t)) := h
  clear h
  have q1 : decide ((3 : Int) < 0) = false := by decide
  go_wp2_with fail
  refine (dk_arm' H6.out (3 : Int) 15 (by omega) (by omega)).mono ?_
  rintro e w7 ⟨rfl, h⟩
  have H7 : Hid (Own w w7 p (arm (cu0 o t) (3 : Int) 15)) := h
  clear h
  go_wp2_with fail
  refine (dk_create H7.out ((small_arm (ct0 o t) (by omega) (by omega)).fits (by omega)) bt (by decide)).mono ?_
  rw [cz1 o t (by omega)]
  rintro e w8 ⟨rfl, h⟩
  have H8 : Hid (Own w w8 p (arm (cu1 o t) (3 - 1) 15)) := h
  clear h
  go_wp2_with fail
  refine (dk_append H8.out ((small_arm (ct1 o t) (by omega) (by omega)).fits (by omega)) bt t (by decide) (by have := ((good_arm (ch1 o t) (a := 3 - 1) (f := 15)).fs (numOf (arm (cu1 o t) (3 - 1) 15).names bt)).2.2; omega)).mono ?_
  rw [cz2 o t (by omega)]
  rintro e w9 ⟨rfl, h⟩
  have H9 : Hid (Own w w9 p (arm (cu2 o t) (3 - 1 - 1) 15)) := h
  clear h
  go_wp2_with fail
  refine (dk_sync H9.out ((small_arm (ct2 o t) (by omega) (by omega)).fits (by omega)) bt (by decide)).mono ?_
  rw [cz3 o t (by omega)]
  rintro e w10 ⟨rfl, h⟩
  have H10 : Hid (Own w w10 p (arm (cu3 o t) (3 - 1 - 1 - 1) 15)) := h
  clear h
  have H10' : Hid (Own w w10 p (arm (cu3 o t) 0 15)) := H10
  clear H10
  have H10 := H10'
  go_wp2_with fail
  refine (dk_rename (D := arm (cu3 o t) 0 15) H10.out ((small_arm (ct3 o t) (by omega) (by omega)).fits (by omega)) bt bx (by decide) (by decide)).mono ?_
  rw [cy3]
  rintro e w11 ⟨rfl, h⟩
  have H11 : Hid (Own w w11 p (cf3 o t)) := h
  clear h
  have hcap := (cp3 o t).c1
  have hsure := (ci3 o t).sure (by omega)
  obtain ⟨a0, a1⟩ := CP.out.1 (cf3 o t) (by simp)
  go_wp2_with fail
  refine (dk_restart H11.out loss (by omega) hsure).mono ?_
  rintro e w12 ⟨rfl, h⟩
  generalize DS.restart (cf3 o t) loss = D at *
  have H12 := Lib.hid h
  have RA := Lib.hid (fun (wz : World) (h : Own w wz p D) => dk_read h bx (by decide))
  generalize readS D bx = sa at *
  rw [a0] at RA
  clear h hcap hsure CP
  go_wp2_with fail
  refine (RA.out _ H12.out).mono ?_
  rintro e wa ⟨rfl, h⟩
  have HA := Lib.hid h
  clear h RA
  subst sa
  have q8 : (o.toList == o.toList) = true := by simp
  have q9 : (t.toList == t.toList) = true := by simp
  go_wp2_with fail
  all_goals
    go_ret
    exact ⟨rfl, HA.out.below⟩
set_option maxRecDepth 100000 in
set_option maxHeartbeats 8000000 in
theorem commits_4 (w : World) (o : ByteArray) (_ : o.size ≤ maxLen) (ho2 : o.data.toList.length ≤ reachBytes) (t : ByteArray) (_ : t.size ≤ maxLen) (ht2 : t.data.toList.length ≤ reachBytes) (n : Int) (hn : (Lit.int .i64 n).wf = true) (loss : Int) (hj : n = 4) :
    Calls Try.prog 4 #[.string o, .string t, .int .i64 n, .int .i64 loss] w fun e w' => e = .returned (.bool true) ∧ Below w.heap.size w w' := by
  rw [← ba_size] at ho2 ht2
  unfold reachBytes at ho2 ht2
  obtain ⟨hn0, hn1⟩ := bounds_i64 hn
  have CP := Lib.hid (commits_plain o t loss)
  subst hj
  go_enter Try.func4, Try.ntmps4
  go_wp2_with fail
  refine (dk_new Unit (brefl w)).mono ?_
  rintro e w1 ⟨rfl, h1⟩
  have H1 := Lib.hid h1
  clear h1
  generalize w.heap.size + 3 = p at *
  go_wp2_with fail
  refine (awake_any _).mono ?_
  rintro e w2 ⟨rfl, hb⟩
  have H2 := Lib.hid (H1.out.on hb)
  clear hb
  go_wp2_with fail
  refine (dk_create H2.out ((small_new Unit).fits (by omega)) bx (by decide)).mono ?_
  rw [cc1]
  rintro e w3 ⟨rfl, h⟩
  have H3 : Hid (Own w w3 p (cm1 o t)) := h
  clear h
  go_wp2_with fail
  refine (dk_append H3.out ((cs1 o t).fits (by omega)) bx o (by decide) (by have := ((cg1 o t).fs (numOf (cm1 o t).names bx)).2.2; omega)).mono ?_
  rw [cc2 o t]
  rintro e w4 ⟨rfl, h⟩
  have H4 : Hid (Own w w4 p (cm2 o t)) := h
  clear h
  go_wp2_with fail
  refine (dk_sync H4.out ((cs2 o t).fits (by omega)) bx (by decide)).mono ?_
  rw [cc3 o t]
  rintro e w5 ⟨rfl, h⟩
  have H5 : Hid (Own w w5 p (cm3 o t)) := h
  clear h
  go_wp2_with fail
  refine (dk_syncDir H5.out ((cs3 o t).fits (by omega))).mono ?_
  rw [cc4 o t]
  rintro e w6 ⟨rfl, h⟩
  have H6 : Hid (Own w w6 p (cu0 o t)) := h
  clear h
  have q1 : decide ((4 : Int) < 0) = false := by decide
  go_wp2_with fail
  refine (dk_arm' H6.out (4 : Int) 15 (by omega) (by omega)).mono ?_
  rintro e w7 ⟨rfl, h⟩
  have H7 : Hid (Own w w7 p (arm (cu0 o t) (4 : Int) 15)) := h
  clear h
  go_wp2_with fail
  refine (dk_create H7.out ((small_arm (ct0 o t) (by omega) (by omega)).fits (by omega)) bt (by decide)).mono ?_
  rw [cz1 o t (by omega)]
  rintro e w8 ⟨rfl, h⟩
  have H8 : Hid (Own w w8 p (arm (cu1 o t) (4 - 1) 15)) := h
  clear h
  go_wp2_with fail
  refine (dk_append H8.out ((small_arm (ct1 o t) (by omega) (by omega)).fits (by omega)) bt t (by decide) (by have := ((good_arm (ch1 o t) (a := 4 - 1) (f := 15)).fs (numOf (arm (cu1 o t) (4 - 1) 15).names bt)).2.2; omega)).mono ?_
  rw [cz2 o t (by omega)]
  rintro e w9 ⟨rfl, h⟩
  have H9 : Hid (Own w w9 p (arm (cu2 o t) (4 - 1 - 1) 15)) := h
  clear h
  go_wp2_with fail
  refine (dk_sync H9.out ((small_arm (ct2 o t) (by omega) (by omega)).fits (by omega)) bt (by decide)).mono ?_
  rw [cz3 o t (by omega)]
  rintro e w10 ⟨rfl, h⟩
  have H10 : Hid (Own w w10 p (arm (cu3 o t) (4 - 1 - 1 - 1) 15)) := h
  clear h
  go_wp2_with fail
  refine (dk_rename H10.out ((small_arm (ct3 o t) (by omega) (by omega)).fits (by omega)) bt bx (by decide) (by decide)).mono ?_
  rw [cz4 o t (by omega)]
  rintro e w11 ⟨rfl, h⟩
  have H11 : Hid (Own w w11 p (arm (cu4 o t) (4 - 1 - 1 - 1 - 1) 15)) := h
  clear h
  have H11' : Hid (Own w w11 p (arm (cu4 o t) 0 15)) := H11
  clear H11
  have H11 := H11'
  go_wp2_with fail
  refine (dk_syncDir (D := arm (cu4 o t) 0 15) H11.out ((small_arm (ct4 o t) (by omega) (by omega)).fits (by omega)) ).mono ?_
  rw [cy4]
  rintro e w12 ⟨rfl, h⟩
  have H12 : Hid (Own w w12 p (cf4 o t)) := h
  clear h
  have hcap := (cp4 o t).c1
  have hsure := (ci4 o t).sure (by omega)
  obtain ⟨a0, a1⟩ := CP.out.2.1
  go_wp2_with fail
  refine (dk_restart H12.out loss (by omega) hsure).mono ?_
  rintro e w13 ⟨rfl, h⟩
  generalize DS.restart (cf4 o t) loss = D at *
  have H13 := Lib.hid h
  have RA := Lib.hid (fun (wz : World) (h : Own w wz p D) => dk_read h bx (by decide))
  generalize readS D bx = sa at *
  rw [a0] at RA
  clear h hcap hsure CP
  go_wp2_with fail
  refine (RA.out _ H13.out).mono ?_
  rintro e wa ⟨rfl, h⟩
  have HA := Lib.hid h
  clear h RA
  rcases a1 with a1 | a1
  all_goals
    subst sa
    have q8 : (o.toList == o.toList) = true := by simp
    have q9 : (t.toList == t.toList) = true := by simp
    go_wp2_with fail
    all_goals
      go_ret
      exact ⟨rfl, HA.out.below⟩
set_option maxRecDepth 100000 in
set_option maxHeartbeats 8000000 in
theorem commits_5 (w : World) (o : ByteArray) (_ : o.size ≤ maxLen) (ho2 : o.data.toList.length ≤ reachBytes) (t : ByteArray) (_ : t.size ≤ maxLen) (ht2 : t.data.toList.length ≤ reachBytes) (n : Int) (hn : (Lit.int .i64 n).wf = true) (loss : Int) (hbig : 5 ≤ n) :
    Calls Try.prog 4 #[.string o, .string t, .int .i64 n, .int .i64 loss] w fun e w' => e = .returned (.bool true) ∧ Below w.heap.size w w' := by
  rw [← ba_size] at ho2 ht2
  unfold reachBytes at ho2 ht2
  obtain ⟨hn0, hn1⟩ := bounds_i64 hn
  have CP := Lib.hid (commits_plain o t loss)
  go_enter Try.func4, Try.ntmps4
  go_wp2_with fail
  refine (dk_new Unit (brefl w)).mono ?_
  rintro e w1 ⟨rfl, h1⟩
  have H1 := Lib.hid h1
  clear h1
  generalize w.heap.size + 3 = p at *
  go_wp2_with fail
  refine (awake_any _).mono ?_
  rintro e w2 ⟨rfl, hb⟩
  have H2 := Lib.hid (H1.out.on hb)
  clear hb
  go_wp2_with fail
  refine (dk_create H2.out ((small_new Unit).fits (by omega)) bx (by decide)).mono ?_
  rw [cc1]
  rintro e w3 ⟨rfl, h⟩
  have H3 : Hid (Own w w3 p (cm1 o t)) := h
  clear h
  go_wp2_with fail
  refine (dk_append H3.out ((cs1 o t).fits (by omega)) bx o (by decide) (by have := ((cg1 o t).fs (numOf (cm1 o t).names bx)).2.2; omega)).mono ?_
  rw [cc2 o t]
  rintro e w4 ⟨rfl, h⟩
  have H4 : Hid (Own w w4 p (cm2 o t)) := h
  clear h
  go_wp2_with fail
  refine (dk_sync H4.out ((cs2 o t).fits (by omega)) bx (by decide)).mono ?_
  rw [cc3 o t]
  rintro e w5 ⟨rfl, h⟩
  have H5 : Hid (Own w w5 p (cm3 o t)) := h
  clear h
  go_wp2_with fail
  refine (dk_syncDir H5.out ((cs3 o t).fits (by omega))).mono ?_
  rw [cc4 o t]
  rintro e w6 ⟨rfl, h⟩
  have H6 : Hid (Own w w6 p (cu0 o t)) := h
  clear h
  have q1 : decide (n < 0) = false := by simp; omega
  go_wp2_with fail
  refine (dk_arm' H6.out n 15 (by omega) (by omega)).mono ?_
  rintro e w7 ⟨rfl, h⟩
  have H7 : Hid (Own w w7 p (arm (cu0 o t) n 15)) := h
  clear h
  have q5 : decide (n ≥ 5) = true := by simpa using hbig
  have q4 : decide (n ≥ 4) = true := by simp; omega
  go_wp2_with fail
  refine (dk_create H7.out ((small_arm (ct0 o t) (by omega) (by omega)).fits (by omega)) bt (by decide)).mono ?_
  rw [cz1 o t (by omega)]
  rintro e w8 ⟨rfl, h⟩
  have H8 : Hid (Own w w8 p (arm (cu1 o t) (n - 1) 15)) := h
  clear h
  go_wp2_with fail
  refine (dk_append H8.out ((small_arm (ct1 o t) (by omega) (by omega)).fits (by omega)) bt t (by decide) (by have := ((good_arm (ch1 o t) (a := n - 1) (f := 15)).fs (numOf (arm (cu1 o t) (n - 1) 15).names bt)).2.2; omega)).mono ?_
  rw [cz2 o t (by omega)]
  rintro e w9 ⟨rfl, h⟩
  have H9 : Hid (Own w w9 p (arm (cu2 o t) (n - 1 - 1) 15)) := h
  clear h
  go_wp2_with fail
  refine (dk_sync H9.out ((small_arm (ct2 o t) (by omega) (by omega)).fits (by omega)) bt (by decide)).mono ?_
  rw [cz3 o t (by omega)]
  rintro e w10 ⟨rfl, h⟩
  have H10 : Hid (Own w w10 p (arm (cu3 o t) (n - 1 - 1 - 1) 15)) := h
  clear h
  go_wp2_with fail
  refine (dk_rename H10.out ((small_arm (ct3 o t) (by omega) (by omega)).fits (by omega)) bt bx (by decide) (by decide)).mono ?_
  rw [cz4 o t (by omega)]
  rintro e w11 ⟨rfl, h⟩
  have H11 : Hid (Own w w11 p (arm (cu4 o t) (n - 1 - 1 - 1 - 1) 15)) := h
  clear h
  go_wp2_with fail
  refine (dk_syncDir H11.out ((small_arm (ct4 o t) (by omega) (by omega)).fits (by omega)) ).mono ?_
  rw [cz5 o t (by omega)]
  rintro e w12 ⟨rfl, h⟩
  have H12 : Hid (Own w w12 p (arm (cu5 o t) (n - 1 - 1 - 1 - 1 - 1) 15)) := h
  clear h
  have hcap := (small_arm (ct5 o t) (a := n - 1 - 1 - 1 - 1 - 1) (f := 15) (by omega) (by omega)).c1
  have hsure := (good_arm (ch5 o t) (a := n - 1 - 1 - 1 - 1 - 1) (f := 15)).sure (by omega)
  obtain ⟨a0, a1⟩ := CP.out.2.2 (n - 1 - 1 - 1 - 1 - 1) 15
  go_wp2_with fail
  refine (dk_restart H12.out loss (by omega) hsure).mono ?_
  rintro e w13 ⟨rfl, h⟩
  generalize DS.restart (arm (cu5 o t) (n - 1 - 1 - 1 - 1 - 1) 15) loss = D at *
  have H13 := Lib.hid h
  have RA := Lib.hid (fun (wz : World) (h : Own w wz p D) => dk_read h bx (by decide))
  generalize readS D bx = sa at *
  rw [a0] at RA
  clear h hcap hsure CP
  go_wp2_with fail
  refine (RA.out _ H13.out).mono ?_
  rintro e wa ⟨rfl, h⟩
  have HA := Lib.hid h
  clear h RA
  subst sa
  have q8 : (o.toList == o.toList) = true := by simp
  have q9 : (t.toList == t.toList) = true := by simp
  go_wp2_with fail
  all_goals
    go_ret
    exact ⟨rfl, HA.out.below⟩
set_option maxRecDepth 100000 in
set_option maxHeartbeats 8000000 in
theorem commits_none (w : World) (o : ByteArray) (_ : o.size ≤ maxLen) (ho2 : o.data.toList.length ≤ reachBytes) (t : ByteArray) (_ : t.size ≤ maxLen) (ht2 : t.data.toList.length ≤ reachBytes) (n : Int) (hn : (Lit.int .i64 n).wf = true) (loss : Int) (hneg : n < 0) :
    Calls Try.prog 4 #[.string o, .string t, .int .i64 n, .int .i64 loss] w fun e w' => e = .returned (.bool true) ∧ Below w.heap.size w w' := by
  have _ht := ht2
  rw [← ba_size] at ho2 ht2
  unfold reachBytes at ho2 ht2
  obtain ⟨hn0, hn1⟩ := bounds_i64 hn
  have CP := Lib.hid (commits_plain o t loss)
  go_enter Try.func4, Try.ntmps4
  go_wp2_with fail
  refine (dk_new Unit (brefl w)).mono ?_
  rintro e w1 ⟨rfl, h1⟩
  have H1 := Lib.hid h1
  clear h1
  generalize w.heap.size + 3 = p at *
  go_wp2_with fail
  refine (awake_any _).mono ?_
  rintro e w2 ⟨rfl, hb⟩
  have H2 := Lib.hid (H1.out.on hb)
  clear hb
  go_wp2_with fail
  refine (dk_create H2.out ((small_new Unit).fits (by omega)) bx (by decide)).mono ?_
  rw [cc1]
  rintro e w3 ⟨rfl, h⟩
  have H3 : Hid (Own w w3 p (cm1 o t)) := h
  clear h
  go_wp2_with fail
  refine (dk_append H3.out ((cs1 o t).fits (by omega)) bx o (by decide) (by have := ((cg1 o t).fs (numOf (cm1 o t).names bx)).2.2; omega)).mono ?_
  rw [cc2 o t]
  rintro e w4 ⟨rfl, h⟩
  have H4 : Hid (Own w w4 p (cm2 o t)) := h
  clear h
  go_wp2_with fail
  refine (dk_sync H4.out ((cs2 o t).fits (by omega)) bx (by decide)).mono ?_
  rw [cc3 o t]
  rintro e w5 ⟨rfl, h⟩
  have H5 : Hid (Own w w5 p (cm3 o t)) := h
  clear h
  go_wp2_with fail
  refine (dk_syncDir H5.out ((cs3 o t).fits (by omega))).mono ?_
  rw [cc4 o t]
  rintro e w6 ⟨rfl, h⟩
  have H6 : Hid (Own w w6 p (cu0 o t)) := h
  clear h
  have q1 : decide (n < 0) = true := by simpa using hneg
  go_wp2_with fail
  go_ret
  exact ⟨rfl, H6.out.below⟩
theorem commits_walk (w : World) (o : ByteArray) (ho : o.size ≤ maxLen) (ho2 : o.data.toList.length ≤ reachBytes) (t : ByteArray) (ht : t.size ≤ maxLen) (ht2 : t.data.toList.length ≤ reachBytes) (n : Int) (hn : (Lit.int .i64 n).wf = true) (loss : Int) (_ : (Lit.int .i64 loss).wf = true) :
    Calls Try.prog 4 #[.string o, .string t, .int .i64 n, .int .i64 loss] w fun e w' => e = .returned (.bool true) ∧ Below w.heap.size w w' := by
  rcases (by omega : n < 0 ∨ n = 0 ∨ n = 1 ∨ n = 2 ∨ n = 3 ∨ n = 4 ∨ 5 ≤ n) with h | h | h | h | h | h | h
  · exact commits_none w o ho ho2 t ht ht2 n hn loss h
  · exact commits_0 w o ho ho2 t ht ht2 n hn loss h
  · exact commits_1 w o ho ho2 t ht ht2 n hn loss h
  · exact commits_2 w o ho ho2 t ht ht2 n hn loss h
  · exact commits_3 w o ho ho2 t ht ht2 n hn loss h
  · exact commits_4 w o ho ho2 t ht ht2 n hn loss h
  · exact commits_5 w o ho ho2 t ht ht2 n hn loss h
end Go.Proofs.Ytfiphjhpjaddcaa
