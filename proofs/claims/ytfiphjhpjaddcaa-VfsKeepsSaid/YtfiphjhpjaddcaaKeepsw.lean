/- The walk of VfsKeeps. -/
import Derived.Test.YtfiphjhpjaddcaaKeeps
namespace Go.Proofs.Ytfiphjhpjaddcaa
open Go.RowKit Go.Maps Go.Sort

set_option maxRecDepth 100000 in
set_option maxHeartbeats 8000000 in
theorem keeps_walk (w : World) (d : ByteArray) (_ : d.size ≤ maxLen) (hd2 : d.data.toList.length ≤ reachBytes) (m : ByteArray) (_ : m.size ≤ maxLen) (hm2 : m.data.toList.length ≤ reachBytes) (loss : Int) (_ : (Lit.int .i64 loss).wf = true) :
    Calls Try.prog 3 #[.string d, .string m, .int .i64 loss] w fun e w' => e = .returned (.bool true) ∧ Below w.heap.size w w' := by
  rw [← ba_size] at hd2 hm2
  unfold reachBytes at hd2 hm2

  go_enter Try.func3, Try.ntmps3
  go_wp2_with fail
  refine (dk_new Unit (brefl w)).mono ?_
  rintro e w1 ⟨rfl, h1⟩
  have H1 := Lib.hid h1
  clear h1
  generalize w.heap.size + 3 = p at *
  go_wp2_with fail
  refine (awake_any _).mono ?_
  rintro e w2 ⟨rfl, hb⟩
  have H2 := Lib.hid (H1.out.on hb)
  clear hb
  go_wp2_with fail
  refine (dk_create H2.out ((small_new Unit).fits (by omega)) baA (by decide)).mono ?_
  rw [kc1]
  rintro e w3 ⟨rfl, h⟩
  have H3 : Hid (Own w w3 p (kp1 d m)) := h
  clear h
  go_wp2_with fail
  refine (dk_append H3.out ((ks1 d m).fits (by omega)) baA d (by decide) (by have := ((kg1 d m).fs (numOf (kp1 d m).names baA)).2.2; omega)).mono ?_
  rw [kc2 d m]
  rintro e w4 ⟨rfl, h⟩
  have H4 : Hid (Own w w4 p (kp2 d m)) := h
  clear h
  go_wp2_with fail
  refine (dk_sync H4.out ((ks2 d m).fits (by omega)) baA (by decide)).mono ?_
  rw [kc3 d m]
  rintro e w5 ⟨rfl, h⟩
  have H5 : Hid (Own w w5 p (kp3 d m)) := h
  clear h
  go_wp2_with fail
  refine (dk_create H5.out ((ks3 d m).fits (by omega)) bb (by decide)).mono ?_
  rw [kc4 d m]
  rintro e w6 ⟨rfl, h⟩
  have H6 : Hid (Own w w6 p (kp4 d m)) := h
  clear h
  go_wp2_with fail
  refine (dk_append H6.out ((ks4 d m).fits (by omega)) bb d (by decide) (by have := ((kg4 d m).fs (numOf (kp4 d m).names bb)).2.2; omega)).mono ?_
  rw [kc5 d m]
  rintro e w7 ⟨rfl, h⟩
  have H7 : Hid (Own w w7 p (kp5 d m)) := h
  clear h
  go_wp2_with fail
  refine (dk_sync H7.out ((ks5 d m).fits (by omega)) bb (by decide)).mono ?_
  rw [kc6 d m]
  rintro e w8 ⟨rfl, h⟩
  have H8 : Hid (Own w w8 p (kp6 d m)) := h
  clear h
  go_wp2_with fail
  refine (dk_syncDir H8.out ((ks6 d m).fits (by omega))).mono ?_
  rw [kc7 d m]
  rintro e w9 ⟨rfl, h⟩
  have H9 : Hid (Own w w9 p (kp7 d m)) := h
  clear h
  go_wp2_with fail
  refine (dk_append H9.out ((ks7 d m).fits (by omega)) baA m (by decide) (by have := ((kg7 d m).fs (numOf (kp7 d m).names baA)).2.2; omega)).mono ?_
  rw [kc8 d m]
  rintro e w10 ⟨rfl, h⟩
  have H10 : Hid (Own w w10 p (kp8 d m)) := h
  clear h
  go_wp2_with fail
  refine (dk_rename H10.out ((ks8 d m).fits (by omega)) bb bc (by decide) (by decide)).mono ?_
  rw [kc9 d m]
  rintro e w11 ⟨rfl, h⟩
  have H11 : Hid (Own w w11 p (kp9 d m)) := h
  clear h
  go_wp2_with fail
  refine (dk_create H11.out ((ks9 d m).fits (by omega)) be (by decide)).mono ?_
  rw [kc10 d m]
  rintro e w12 ⟨rfl, h⟩
  have H12 : Hid (Own w w12 p (kp10 d m)) := h
  clear h
  go_wp2_with fail
  refine (dk_append H12.out ((ks10 d m).fits (by omega)) be m (by decide) (by have := ((kg10 d m).fs (numOf (kp10 d m).names be)).2.2; omega)).mono ?_
  rw [kc11 d m]
  rintro e w13 ⟨rfl, h⟩
  have H13 : Hid (Own w w13 p (kp11 d m)) := h
  clear h
  have hc := (ks11 d m).c1
  go_wp2_with fail
  refine (dk_restart H13.out loss (by omega) ((kg11 d m).sure (by omega))).mono ?_
  rintro e w14 ⟨rfl, h⟩
  have H14 := Lib.hid h
  clear h hc
  have KP := keeps_plain d m loss
  obtain ⟨D, hD⟩ : ∃ D, (kp11 d m).restart loss = D := ⟨_, rfl⟩
  rw [hD] at H14 KP
  clear hD
  obtain ⟨⟨a0, a1, a2, a3⟩, KB, KC, ⟨KE, e2, e3⟩⟩ := KP
  have hcat : ∀ w : World, (Op.stringOp .add d m).run Try.prog w = .ok (.string (d ++ m)) w := fun w => run_string_add_sum w d m (by omega)
  have hwh : (d ++ m).size = d.size + m.size := by rw [ba_size, ba_append, List.length_append, ← ba_size, ← ba_size]
  have RA := Lib.hid (fun (wz : World) (h : Own w wz p D) => dk_read h baA (by decide))
  have RB := Lib.hid (fun (wz : World) (h : Own w wz p D) => dk_read h bb (by decide))
  have RC := Lib.hid (fun (wz : World) (h : Own w wz p D) => dk_read h bc (by decide))
  have RE := Lib.hid (fun (wz : World) (h : Own w wz p D) => dk_read h be (by decide))
  generalize readS D baA = sa at *
  generalize readS D bb = sb at *
  generalize readS D bc = sc at *
  generalize readS D be = se at *
  rw [a0] at RA
  generalize readE D bb = fb at *
  generalize readE D bc = fc at *
  generalize readE D be = fe at *
  have wh := run_pre sa (d ++ m) a2 a3
  have we := run_pre se m e2 e3
  generalize d ++ m = dm at *
  clear a0 a3 e3
  have q1 : decide (sa.size < d.size) = false := by simpa using a1
  have q2 : decide (sa.size > dm.size) = false := by simpa using a2
  have q3 : (sa.toList == sa.toList) = true := by simp
  have q4 : decide (se.size ≤ m.size) = true := by simpa using e2
  have q5 : (se.toList == se.toList) = true := by simp
  have q6 : (d.toList == d.toList) = true := by simp
  have KB := Lib.hid KB
  have KC := Lib.hid KC
  have KE := Lib.hid KE
  go_wp2_with fail
  refine (RA.out _ H14.out).mono ?_
  rintro e wa ⟨rfl, h⟩
  have HA := Lib.hid h
  clear h
  go_wp2_with fail
  refine (RB.out _ HA.out).mono ?_
  rintro e wb ⟨rfl, h⟩
  have HB := Lib.hid h
  clear h
  go_wp2_with fail
  refine (RC.out _ HB.out).mono ?_
  rintro e wc ⟨rfl, h⟩
  have HC := Lib.hid h
  clear h
  go_wp2_with fail
  refine (RE.out _ HC.out).mono ?_
  rintro e we' ⟨rfl, h⟩
  have HE := Lib.hid h
  clear h RA RB RC RE
  rcases KB.out with ⟨hfb, hsb⟩ | hfb
  all_goals
    subst fb
    try subst sb
    rcases KC.out with ⟨hfc, hsc⟩ | hfc
    all_goals
      subst fc
      try subst sc
      rcases KE.out with hfe | hfe
      all_goals
        subst fe
        go_wp2_with fail
        all_goals
          go_ret
          exact ⟨rfl, HE.out.below⟩
end Go.Proofs.Ytfiphjhpjaddcaa
