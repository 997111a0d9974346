/- The walk of FstOpens. -/
import Derived.Test.YtheickndnniomaaDoorRopen
import Derived.Test.YtheickndnniomaaDoorAwake
namespace Go.Proofs.YtheickndnniomaaDoor
open Go.RowKit Go.Maps

/-- What opens keeps its bounds. -/
theorem openF_in {t : List UInt8} (h : (openF t).1 = 0) : Fine (openF t).2.1 ∧ (allE (openF t).2.1 (openF t).2.2.1).length ≤ 65536 ∧ (openF t).2.1.length ≤ t.length := by
  obtain ⟨⟨e, acc, u⟩, hr⟩ : ∃ r, rdN 2 [] t = r := ⟨_, rfl⟩
  by_cases he : e = 0
  · subst he
    obtain ⟨v, v3, rfl, hv, hv3, hl, hop⟩ := open_2 hr
    rw [hop] at h ⊢
    obtain ⟨⟨e2, ds, sz, u2⟩, hra⟩ : ∃ r, rdAll v.toNat [] [] [] u = r := ⟨_, rfl⟩
    rw [hra] at h ⊢
    by_cases he2 : e2 = 0
    · subst he2
      by_cases hu : u2 = []
      · subst hu
        by_cases hb : rightE (allE ds v3) ≠ 0 ∨ buildS (allE ds v3) ≠ ⟨t.toArray⟩
        · rw [openG_3 hb] at h
          cases h
        · rw [openG_4 hb]
          obtain ⟨dp', g1, g2, g3⟩ := rdAll_in v.toNat [] [] [] u RdInv.nil (by rw [hra])
          rw [hra] at g1 g2 g3
          simp only at g1 g2 g3
          refine ⟨g1.fine, ?_, by show ds.length ≤ t.length; simp only [List.length_nil] at g2 g3; omega⟩
          show (allE ds v3).length ≤ 65536
          by_cases hd : ds = []
          · subst hd
            exact Nat.zero_le _
          · have h1 := allE_len g1 v3 hd
            unfold allE
            rw [if_neg hd]
            have h2 := (getD_in g1.szb ⟨by omega, by omega⟩ (ds.length - 1)).2
            omega
      · rw [openG_2 hu] at h
        cases h
    · rw [openG_1 he2] at h
      exact absurd h he2
  · rw [open_1 hr he] at h
    exact absurd h he
set_option maxRecDepth 100000 in
set_option maxHeartbeats 8000000 in
theorem opens_walk (w : World) (p : ByteArray) (_ : p.size ≤ maxLen) (_ : p.data.toList.length ≤ reachBytes) (ht : Tab w) : Calls Tryd.prog 4 #[.string p] w fun e w' => e = .returned (.bool true) ∧ Below w.heap.size w w' := by
  obtain ⟨t, rfl⟩ : ∃ t : List UInt8, p = ⟨t.toArray⟩ := ⟨p.data.toList, by cases p; simp⟩
  have HT := Lib.hid ht
  clear ht
  by_cases hbig : 1500 < t.length
  · have q1 : decide ((t.length : Int) > 1500) = true := decide_eq_true (by omega)
    have q2 : decide (t.length > 1500) = true := decide_eq_true (by omega)
    clear hbig
    go_enter Tryd.func4, Tryd.ntmps4
    go_wp2_with fail
    refine (awake_any _ HT.out).mono ?_
    rintro e w1 ⟨rfl, hb1⟩
    have HB1 := Lib.hid hb1
    clear hb1
    go_wp2_with fail
    refine (awake_any _ (HT.out.below HB1.out)).mono ?_
    rintro e w2 ⟨rfl, hb2⟩
    have HB2 := Lib.hid (bcall HB1.out hb2)
    clear hb2
    go_wp2_with fail
    go_ret
    exact ⟨rfl, HB2.out⟩
  have q1 : decide ((t.length : Int) > 1500) = false := decide_eq_false (by omega)
  have q2 : decide (t.length > 1500) = false := decide_eq_false (by omega)
  have HOP := Lib.hid (fun (W : World) (ht : Tab W) => open_any W t (by omega) ht)
  have HRO := Lib.hid (fun (W : World) => ropen_any W t (by omega))
  have HIN := Lib.hid (openF_in (t := t))
  have htl : t.length ≤ 1500 := by omega
  obtain ⟨⟨err, ds, base, cnt⟩, hR⟩ : ∃ R, openF t = R := ⟨_, rfl⟩
  rw [hR] at HOP HRO HIN
  clear hR hbig
  go_enter Tryd.func4, Tryd.ntmps4
  go_wp2_with fail
  refine (awake_any _ HT.out).mono ?_
  rintro e w1 ⟨rfl, hb1⟩
  have HB1 := Lib.hid hb1
  clear hb1
  go_wp2_with fail
  refine (HOP.out w1 (HT.out.below HB1.out)).mono ?_
  rintro e w2 ⟨hb2, ⟨h0, pp, B, n, c, A, hs, rfl, hd, hds, hp1, hp2⟩ | ⟨h0, rfl⟩⟩
  · simp only at h0
    subst h0
    have HD := Lib.hid hd
    have HDS := Lib.hid hds
    have HB2 := Lib.hid (bcall HB1.out hb2)
    obtain ⟨hf, hal, hdl⟩ := HIN.out rfl
    simp only at hf hal hdl hds
    have HF : Hid (Fine (hs.map (·.d)) ∧ (allE (hs.map (·.d)) base).length ≤ 65536 ∧ n ≤ 1500) := by
      rw [hds]
      exact ⟨hf, hal, by have := hd.len; have h1 := congrArg List.length hds; rw [List.length_map] at h1; omega⟩
    clear hb2 hd hds hf hal hdl HOP HIN
    simp only
    go_wp2_with fail
    refine (HRO.out w2).mono ?_
    rintro e w3 ⟨hb3, ⟨_, v, rfl, hv⟩ | ⟨h, _⟩⟩
    rotate_left
    · exact absurd rfl h
    obtain ⟨A3, c3, rfl, hc3⟩ := own_shape hv
    have HV := Lib.hid hv
    have HD3 := Lib.hid (HD.out.keep hb3)
    have HB3 := Lib.hid (bcall HB2.out hb3)
    clear hb3 hv HRO HD
    simp only
    go_wp2_with fail
    refine (all_any w3 pp B n c A base cnt hs HD3.out HF.out.1 (by have := HF.out.2.1; omega) (by have := HF.out.2.2; omega)).mono ?_
    rintro e w4 ⟨v4, rfl, hv4, hb4⟩
    obtain ⟨A4, c4, rfl, hc4⟩ := own_shape hv4
    have HB4 := Lib.hid (bcall HB3.out hb4)
    have hal := HF.out.2.1
    have hdd : hs.map (·.d) = ds := HDS.out
    rw [hdd] at hv4 hal
    rw [hdd] at hc4 ⊢
    have HSM := Lib.hid (Same_any w4 w4.heap.size (Nat.le_refl _) A4 A3 _ c4 _ c3 _ _ ⟨Sl.of_own hv4, hc4, by omega⟩ ⟨Sl.of_own (own_kept HV.out hb4), hc3, by omega⟩)
    rw [decide_eq_true rfl] at HSM
    simp only at HSM ⊢
    generalize (allE ds base).length = m at *
    clear hb4 hv4 hc4 hal hdd
    go_wp2_with fail
    refine HSM.out.mono ?_
    rintro e w5 ⟨rfl, hb5⟩
    have HB5 := Lib.hid (bcall HB4.out hb5)
    clear hb5
    go_wp2_with fail
    go_ret
    exact ⟨rfl, HB5.out⟩
  · simp only at h0
    have HB2 := Lib.hid (bcall HB1.out hb2)
    have HE := Lib.hid h0
    have q3 : (err != 0) = true := by simpa using h0
    have q4 : (err == 0) = false := by simpa using h0
    clear hb2 h0 HOP HIN
    simp only
    go_wp2_with fail
    refine (HRO.out w2).mono ?_
    rintro e w3 ⟨hb3, ⟨h, _⟩ | ⟨_, rfl⟩⟩
    · exact absurd h HE.out
    have HB3 := Lib.hid (bcall HB2.out hb3)
    clear hb3 HRO
    simp only
    go_wp2_with fail
    refine (all_nil w3).mono ?_
    rintro e w4 ⟨rfl, hb4⟩
    have HB4 := Lib.hid (bcall HB3.out hb4)
    have hen : ∀ W : World, Ents W W.heap.size none 0 0 [] := fun W => ⟨⟨rfl, fun h => absurd h (by omega)⟩, Nat.le_refl _, by omega⟩
    have HSM := Lib.hid (Same_any w4 w4.heap.size (Nat.le_refl _) none none 0 0 0 0 [] [] (hen w4) (hen w4))
    rw [decide_eq_true rfl] at HSM
    clear hb4 hen
    go_wp2_with fail
    refine HSM.out.mono ?_
    rintro e w5 ⟨rfl, hb5⟩
    have HB5 := Lib.hid (bcall HB4.out hb5)
    clear hb5
    go_wp2_with fail
    go_ret
    exact ⟨rfl, HB5.out⟩
end Go.Proofs.YtheickndnniomaaDoor
