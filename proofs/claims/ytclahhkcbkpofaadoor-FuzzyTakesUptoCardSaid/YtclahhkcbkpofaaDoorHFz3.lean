/- rows: its walk. -/
import Derived.Test.YtclahhkcbkpofaaDoorHFz2
import Derived.Deep.RegionHeld3
import Derived.OwnWalk
namespace Go.Proofs.YtclahhkcbkpofaaDoor.Sp
open Go.RowKit
theorem RowsAt.base {w : World} {b b' : Nat} {v : Value} {l : List RR} (h : RowsAt w b v l) (hb : b' ≤ b) : RowsAt w b' v l :=
  ⟨h.own.mono hb, fun R hR => ⟨(h.inn R hR).1, (h.inn R hR).2.mono hb⟩, h.nod⟩

theorem andnot_low1 (x : Int) (h0 : 0 ≤ x) (h1 : x < 4611686018427387904) : bits .andNot .i64 x 63 = x - x % 64 := andnot_low 6 (by omega) x h0 h1
theorem andnot_low2 (x : Int) (h0 : 0 ≤ x) (h1 : x < 4611686018427387904) : bits .andNot .i64 x 4095 = x - x % 4096 := andnot_low 12 (by omega) x h0 h1
theorem andnot_low3 (x : Int) (h0 : 0 ≤ x) (h1 : x < 4611686018427387904) : bits .andNot .i64 x 262143 = x - x % 262144 := andnot_low 18 (by omega) x h0 h1
set_option maxRecDepth 100000 in
set_option maxHeartbeats 40000000 in
theorem rows_step (N : Nat) (ih : ∀ lo hi (w : World), (hi - lo).toNat < N → lo ≤ hi → Cls lo hi → Calls Tryd.prog 54 #[.int .i64 lo, .int .i64 hi] w (RowsOf w (rowsP lo hi)))
    (lo hi : Int) (w : World) (hN : (hi - lo).toNat < N + 1) (hle : lo ≤ hi) (hk : Cls lo hi) : Calls Tryd.prog 54 #[.int .i64 lo, .int .i64 hi] w (RowsOf w (rowsP lo hi)) := by
  obtain ⟨hw1, hw2⟩ := cls_whole hle hk
  have HS := Lib.hid (size_any lo hw1)
  have hsb := szC_bounds lo
  have c0 : 0 ≤ lo ∧ hi ≤ 1114111 := by unfold Cls at hk; omega
  obtain ⟨c0, c1⟩ := c0
  have c2 : 0 ≤ hi := by omega
  have c3 : lo ≤ 1114111 := by omega
  have HK := Lib.hid hk
  have HW1 := Lib.hid hw1
  have HW2 := Lib.hid hw2
  clear hw1 hw2 hk
  go_enter Tryd.func54, Tryd.ntmps54
  go_wp2_with fail
  go_loopw [5] (fun k wr => RowsR w lo hi k wr) (fun k _ => 4 - (intOf k).toNat)
  case atStart => exact ⟨1, by omega, rfl, ⟨fun h => by omega, fun h => by omega, fun h => by omega⟩, brefl w⟩
  case round =>
    obtain ⟨j, hj, rfl, hno, hbw⟩ := hrel
    have HN := Lib.hid hno
    have hsw := hbw.size
    clear hno
    obtain rfl | rfl | rfl | rfl := hj
    · have w6 : IntKind.i64.wrap 6 = 6 := by decide
      by_cases h1 : lo / 64 = hi / 64
      · have HQ := Lib.hid h1
        have q1 : (lo / 64 == hi / 64) = true := by simpa using h1
        have q2 : decide (lo / 64 = hi / 64) = true := by simpa using h1
        clear h1
        go_wp2_with fail
        go_quiet (fail)
        have hbq := below_drewN hbw nq
        generalize wr.drewN nq = wq at *
        go_wp2_with fail
        go_roundw
        case rel => exact ⟨2, by omega, rfl, nocut_next1 HN.out (by have := HQ.out; omega), hbq⟩
        case measure => simp [intOf]
      have q1 : (lo / 64 == hi / 64) = false := by simpa using h1
      have q2 : decide (lo / 64 = hi / 64) = false := by simpa using h1
      by_cases h2 : szC lo ≤ 1
      · have HQ := Lib.hid h2
        have q3 : decide (szC lo ≤ 1) = true := by simpa using h2
        clear h1 h2
        go_wp2_with fail
        go_region_held3 (fun w' => Below w.heap.size w w') (first | assumption | exact below_drewN hbw 1 | go_keep) (first
          | (go_at_call 70; refine (HS.out _).mono ?_; rintro e wn ⟨rfl, hbn⟩; have hBn := bcall (by assumption) hbn))
        go_wp2_with fail
        go_roundw
        case rel => exact ⟨2, by omega, rfl, nocut_next1 HN.out (by have := HQ.out; omega), by first | assumption | exact below_drewN hbw 1⟩
        case measure => simp [intOf]
      have q3 : decide (szC lo ≤ 1) = false := by simpa using h2
      have n1 := and_low 6 (by omega) lo (by omega) (by omega)
      have o1 := or_low 6 (by omega) lo (by omega) (by omega)
      simp only [Int.reducePow, Int.reduceSub] at n1 o1
      by_cases h3 : lo % 64 ≠ 0
      · have hcut := cut_lo1 HN.out h1 (by omega) h3
        have hin := cut_in hle hcut
        obtain ⟨x, hx⟩ : ∃ x, lo - lo % 64 + 63 = x := ⟨_, rfl⟩
        rw [hx] at o1
        obtain ⟨r, hr⟩ : ∃ r, lo % 64 = r := ⟨_, rfl⟩
        rw [hr] at n1
        have hxe : lo - lo % 64 + 64 = x + 1 := by omega
        rw [hxe] at hcut hin
        have hcl1 : Cls lo x := by have := HK.out; unfold Cls at *; omega
        have hcl2 : Cls (x + 1) hi := by have := HK.out; unfold Cls at *; omega
        have q4 : (r == 0) = false := by simp; omega
        have q5 : (r != 0) = true := by simp; omega
        have q6 : ¬ r = 0 := by omega
        have hx0 : 0 ≤ x := by omega
        clear h1 h2 h3 hx hr hxe
        go_wp2_with fail
        go_region_held3 (fun w' => Below w.heap.size w w') (first | assumption | exact below_drewN hbw 1 | go_keep) (first
          | (go_at_call 70; refine (HS.out _).mono ?_; rintro e wn ⟨rfl, hbn⟩; have hBn := bcall (by assumption) hbn))
        go_wp2_with fail
        ((with_reducible refine (ih lo x _ (by omega) (by omega) hcl1).mono ?_))
        rintro e w2 ⟨v1, l1, rfl, hr1, hm1, hb1⟩
        go_wp2_with fail
        ((with_reducible refine (ih (x + 1) hi _ (by omega) (by omega) hcl2).mono ?_))
        rintro e w3 ⟨v2, l2, rfl, hr2, hm2, hb2⟩
        have hn1 : (l1.length : Int) ≤ 1114112 := by
          have h := rows_len (lo := lo) (hi := x) (by omega) hcl1
          rw [← hm1, List.length_map] at h
          omega
        have hn2 : (l2.length : Int) ≤ 1114112 := by
          have h := rows_len (lo := (x + 1)) (hi := hi) (by omega) hcl2
          rw [← hm2, List.length_map] at h
          omega
        have HR1 := Lib.hid hr1
        have HR2 := Lib.hid hr2
        have HM1 := Lib.hid hm1
        have HM2 := Lib.hid hm2
        have HB := Lib.hid (bcall hBn (bcall hb1 hb2))
        have hs2 := hb1.size
        have hs3 := hb2.size
        have hsn := hBn.size
        have HB2 := Lib.hid hb2
        obtain ⟨A2, c2, rfl, _⟩ := own_shape hr2.own
        have hnn : A2 = none → l2.length = 0 := by
          intro e
          subst e
          rcases hr2.own.2 with ⟨_, h0⟩ | ⟨g, cap, cur, hv, _⟩
          · exact h0
          · cases hv
        clear hr1 hr2 hm1 hm2 hb1 hb2
        go_wp2_with (at_builtin; refine wpList_append_sl w3 w3 rfl _ _ _ rfl el_row v1 _ _ rfl (own_kept HR1.out.own HB2.out) rfl (Sl.of_own HR2.out.own) hnn (vals_one l2) (by unfold maxLen; omega) (by omega) (by omega) (brefl _ |>.mono (by omega)) ?_; intro v3 w4 hown3 hb3 hgr _)
        go_ret
        refine ⟨v3, l1 ++ l2, rfl, (HR1.out.join HB2.out HR2.out hown3 hgr (by omega)).base hsn, ?_, ?_⟩
        · rw [List.map_append, HM1.out, HM2.out, rowsP_cut hle hcut]
          congr 2
          all_goals first | rfl | omega
        · exact HB.out.trans (hb3.mono (by omega))
      have h3 : lo % 64 = 0 := by omega
      have n2 := and_low 6 (by omega) hi (by omega) (by omega)
      simp only [Int.reducePow, Int.reduceSub] at n2
      rw [h3] at n1
      by_cases h4 : hi % 64 = 63
      · have HQ := Lib.hid (And.intro h3 h4)
        rw [h4] at n2
        clear h1 h2 h3 h4 o1
        go_wp2_with fail
        go_region_held3 (fun w' => Below w.heap.size w w') (first | assumption | exact below_drewN hbw 1 | go_keep) (first
          | (go_at_call 70; refine (HS.out _).mono ?_; rintro e wn ⟨rfl, hbn⟩; have hBn := bcall (by assumption) hbn))
        go_wp2_with fail
        go_roundw
        case rel => exact ⟨2, by omega, rfl, nocut_next1 HN.out (by have := HQ.out; omega), by first | assumption | exact below_drewN hbw 1⟩
        case measure => simp [intOf]
      · have hcut := cut_hi1 HN.out h1 (by omega) h3 h4
        have hin := cut_in hle hcut
        obtain ⟨r, hr⟩ : ∃ r, hi % 64 = r := ⟨_, rfl⟩
        rw [hr] at n2
        obtain ⟨y, hy⟩ : ∃ y, hi - hi % 64 = y := ⟨_, rfl⟩
        rw [hy] at hcut hin
        have o2 : bits .andNot .i64 hi 63 = y := by rw [andnot_low1 hi c2 (by omega)]; exact hy
        have hcl1 : Cls lo (y - 1) := by have := HK.out; unfold Cls at *; omega
        have hcl2 : Cls y hi := by have := HK.out; unfold Cls at *; omega
        have q4 : (r == 63) = false := by simp; omega
        have q5 : (r != 63) = true := by simp; omega
        have q6 : ¬ r = 63 := by omega
        have hy0 : 0 ≤ y := by omega
        clear h1 h2 h3 h4 hr hy o1
        go_wp2_with fail
        go_region_held3 (fun w' => Below w.heap.size w w') (first | assumption | exact below_drewN hbw 1 | go_keep) (first
          | (go_at_call 70; refine (HS.out _).mono ?_; rintro e wn ⟨rfl, hbn⟩; have hBn := bcall (by assumption) hbn))
        go_wp2_with fail
        ((with_reducible refine (ih lo (y - 1) _ (by omega) (by omega) hcl1).mono ?_))
        rintro e w2 ⟨v1, l1, rfl, hr1, hm1, hb1⟩
        go_wp2_with fail
        ((with_reducible refine (ih y hi _ (by omega) (by omega) hcl2).mono ?_))
        rintro e w3 ⟨v2, l2, rfl, hr2, hm2, hb2⟩
        have hn1 : (l1.length : Int) ≤ 1114112 := by
          have h := rows_len (lo := lo) (hi := (y - 1)) (by omega) hcl1
          rw [← hm1, List.length_map] at h
          omega
        have hn2 : (l2.length : Int) ≤ 1114112 := by
          have h := rows_len (lo := y) (hi := hi) (by omega) hcl2
          rw [← hm2, List.length_map] at h
          omega
        have HR1 := Lib.hid hr1
        have HR2 := Lib.hid hr2
        have HM1 := Lib.hid hm1
        have HM2 := Lib.hid hm2
        have HB := Lib.hid (bcall hBn (bcall hb1 hb2))
        have hs2 := hb1.size
        have hs3 := hb2.size
        have hsn := hBn.size
        have HB2 := Lib.hid hb2
        obtain ⟨A2, c2, rfl, _⟩ := own_shape hr2.own
        have hnn : A2 = none → l2.length = 0 := by
          intro e
          subst e
          rcases hr2.own.2 with ⟨_, h0⟩ | ⟨g, cap, cur, hv, _⟩
          · exact h0
          · cases hv
        clear hr1 hr2 hm1 hm2 hb1 hb2
        go_wp2_with (at_builtin; refine wpList_append_sl w3 w3 rfl _ _ _ rfl el_row v1 _ _ rfl (own_kept HR1.out.own HB2.out) rfl (Sl.of_own HR2.out.own) hnn (vals_one l2) (by unfold maxLen; omega) (by omega) (by omega) (brefl _ |>.mono (by omega)) ?_; intro v3 w4 hown3 hb3 hgr _)
        go_ret
        refine ⟨v3, l1 ++ l2, rfl, (HR1.out.join HB2.out HR2.out hown3 hgr (by omega)).base hsn, ?_, ?_⟩
        · rw [List.map_append, HM1.out, HM2.out, rowsP_cut hle hcut]
        · exact HB.out.trans (hb3.mono (by omega))

    · have w6 : IntKind.i64.wrap 12 = 12 := by decide
      by_cases h1 : lo / 4096 = hi / 4096
      · have HQ := Lib.hid h1
        have q1 : (lo / 4096 == hi / 4096) = true := by simpa using h1
        have q2 : decide (lo / 4096 = hi / 4096) = true := by simpa using h1
        clear h1
        go_wp2_with fail
        go_quiet (fail)
        have hbq := below_drewN hbw nq
        generalize wr.drewN nq = wq at *
        go_wp2_with fail
        go_roundw
        case rel => exact ⟨3, by omega, rfl, nocut_next2 HN.out (by have := HQ.out; omega), hbq⟩
        case measure => simp [intOf]
      have q1 : (lo / 4096 == hi / 4096) = false := by simpa using h1
      have q2 : decide (lo / 4096 = hi / 4096) = false := by simpa using h1
      by_cases h2 : szC lo ≤ 2
      · have HQ := Lib.hid h2
        have q3 : decide (szC lo ≤ 2) = true := by simpa using h2
        clear h1 h2
        go_wp2_with fail
        go_region_held3 (fun w' => Below w.heap.size w w') (first | assumption | exact below_drewN hbw 1 | go_keep) (first
          | (go_at_call 70; refine (HS.out _).mono ?_; rintro e wn ⟨rfl, hbn⟩; have hBn := bcall (by assumption) hbn))
        go_wp2_with fail
        go_roundw
        case rel => exact ⟨3, by omega, rfl, nocut_next2 HN.out (by have := HQ.out; omega), by first | assumption | exact below_drewN hbw 1⟩
        case measure => simp [intOf]
      have q3 : decide (szC lo ≤ 2) = false := by simpa using h2
      have n1 := and_low 12 (by omega) lo (by omega) (by omega)
      have o1 := or_low 12 (by omega) lo (by omega) (by omega)
      simp only [Int.reducePow, Int.reduceSub] at n1 o1
      by_cases h3 : lo % 4096 ≠ 0
      · have hcut := cut_lo2 HN.out h1 (by omega) h3
        have hin := cut_in hle hcut
        obtain ⟨x, hx⟩ : ∃ x, lo - lo % 4096 + 4095 = x := ⟨_, rfl⟩
        rw [hx] at o1
        obtain ⟨r, hr⟩ : ∃ r, lo % 4096 = r := ⟨_, rfl⟩
        rw [hr] at n1
        have hxe : lo - lo % 4096 + 4096 = x + 1 := by omega
        rw [hxe] at hcut hin
        have hcl1 : Cls lo x := by have := HK.out; unfold Cls at *; omega
        have hcl2 : Cls (x + 1) hi := by have := HK.out; unfold Cls at *; omega
        have q4 : (r == 0) = false := by simp; omega
        have q5 : (r != 0) = true := by simp; omega
        have q6 : ¬ r = 0 := by omega
        have hx0 : 0 ≤ x := by omega
        clear h1 h2 h3 hx hr hxe
        go_wp2_with fail
        go_region_held3 (fun w' => Below w.heap.size w w') (first | assumption | exact below_drewN hbw 1 | go_keep) (first
          | (go_at_call 70; refine (HS.out _).mono ?_; rintro e wn ⟨rfl, hbn⟩; have hBn := bcall (by assumption) hbn))
        go_wp2_with fail
        ((with_reducible refine (ih lo x _ (by omega) (by omega) hcl1).mono ?_))
        rintro e w2 ⟨v1, l1, rfl, hr1, hm1, hb1⟩
        go_wp2_with fail
        ((with_reducible refine (ih (x + 1) hi _ (by omega) (by omega) hcl2).mono ?_))
        rintro e w3 ⟨v2, l2, rfl, hr2, hm2, hb2⟩
        have hn1 : (l1.length : Int) ≤ 1114112 := by
          have h := rows_len (lo := lo) (hi := x) (by omega) hcl1
          rw [← hm1, List.length_map] at h
          omega
        have hn2 : (l2.length : Int) ≤ 1114112 := by
          have h := rows_len (lo := (x + 1)) (hi := hi) (by omega) hcl2
          rw [← hm2, List.length_map] at h
          omega
        have HR1 := Lib.hid hr1
        have HR2 := Lib.hid hr2
        have HM1 := Lib.hid hm1
        have HM2 := Lib.hid hm2
        have HB := Lib.hid (bcall hBn (bcall hb1 hb2))
        have hs2 := hb1.size
        have hs3 := hb2.size
        have hsn := hBn.size
        have HB2 := Lib.hid hb2
        obtain ⟨A2, c2, rfl, _⟩ := own_shape hr2.own
        have hnn : A2 = none → l2.length = 0 := by
          intro e
          subst e
          rcases hr2.own.2 with ⟨_, h0⟩ | ⟨g, cap, cur, hv, _⟩
          · exact h0
          · cases hv
        clear hr1 hr2 hm1 hm2 hb1 hb2
        go_wp2_with (at_builtin; refine wpList_append_sl w3 w3 rfl _ _ _ rfl el_row v1 _ _ rfl (own_kept HR1.out.own HB2.out) rfl (Sl.of_own HR2.out.own) hnn (vals_one l2) (by unfold maxLen; omega) (by omega) (by omega) (brefl _ |>.mono (by omega)) ?_; intro v3 w4 hown3 hb3 hgr _)
        go_ret
        refine ⟨v3, l1 ++ l2, rfl, (HR1.out.join HB2.out HR2.out hown3 hgr (by omega)).base hsn, ?_, ?_⟩
        · rw [List.map_append, HM1.out, HM2.out, rowsP_cut hle hcut]
          congr 2
          all_goals first | rfl | omega
        · exact HB.out.trans (hb3.mono (by omega))
      have h3 : lo % 4096 = 0 := by omega
      have n2 := and_low 12 (by omega) hi (by omega) (by omega)
      simp only [Int.reducePow, Int.reduceSub] at n2
      rw [h3] at n1
      by_cases h4 : hi % 4096 = 4095
      · have HQ := Lib.hid (And.intro h3 h4)
        rw [h4] at n2
        clear h1 h2 h3 h4 o1
        go_wp2_with fail
        go_region_held3 (fun w' => Below w.heap.size w w') (first | assumption | exact below_drewN hbw 1 | go_keep) (first
          | (go_at_call 70; refine (HS.out _).mono ?_; rintro e wn ⟨rfl, hbn⟩; have hBn := bcall (by assumption) hbn))
        go_wp2_with fail
        go_roundw
        case rel => exact ⟨3, by omega, rfl, nocut_next2 HN.out (by have := HQ.out; omega), by first | assumption | exact below_drewN hbw 1⟩
        case measure => simp [intOf]
      · have hcut := cut_hi2 HN.out h1 (by omega) h3 h4
        have hin := cut_in hle hcut
        obtain ⟨r, hr⟩ : ∃ r, hi % 4096 = r := ⟨_, rfl⟩
        rw [hr] at n2
        obtain ⟨y, hy⟩ : ∃ y, hi - hi % 4096 = y := ⟨_, rfl⟩
        rw [hy] at hcut hin
        have o2 : bits .andNot .i64 hi 4095 = y := by rw [andnot_low2 hi c2 (by omega)]; exact hy
        have hcl1 : Cls lo (y - 1) := by have := HK.out; unfold Cls at *; omega
        have hcl2 : Cls y hi := by have := HK.out; unfold Cls at *; omega
        have q4 : (r == 4095) = false := by simp; omega
        have q5 : (r != 4095) = true := by simp; omega
        have q6 : ¬ r = 4095 := by omega
        have hy0 : 0 ≤ y := by omega
        clear h1 h2 h3 h4 hr hy o1
        go_wp2_with fail
        go_region_held3 (fun w' => Below w.heap.size w w') (first | assumption | exact below_drewN hbw 1 | go_keep) (first
          | (go_at_call 70; refine (HS.out _).mono ?_; rintro e wn ⟨rfl, hbn⟩; have hBn := bcall (by assumption) hbn))
        go_wp2_with fail
        ((with_reducible refine (ih lo (y - 1) _ (by omega) (by omega) hcl1).mono ?_))
        rintro e w2 ⟨v1, l1, rfl, hr1, hm1, hb1⟩
        go_wp2_with fail
        ((with_reducible refine (ih y hi _ (by omega) (by omega) hcl2).mono ?_))
        rintro e w3 ⟨v2, l2, rfl, hr2, hm2, hb2⟩
        have hn1 : (l1.length : Int) ≤ 1114112 := by
          have h := rows_len (lo := lo) (hi := (y - 1)) (by omega) hcl1
          rw [← hm1, List.length_map] at h
          omega
        have hn2 : (l2.length : Int) ≤ 1114112 := by
          have h := rows_len (lo := y) (hi := hi) (by omega) hcl2
          rw [← hm2, List.length_map] at h
          omega
        have HR1 := Lib.hid hr1
        have HR2 := Lib.hid hr2
        have HM1 := Lib.hid hm1
        have HM2 := Lib.hid hm2
        have HB := Lib.hid (bcall hBn (bcall hb1 hb2))
        have hs2 := hb1.size
        have hs3 := hb2.size
        have hsn := hBn.size
        have HB2 := Lib.hid hb2
        obtain ⟨A2, c2, rfl, _⟩ := own_shape hr2.own
        have hnn : A2 = none → l2.length = 0 := by
          intro e
          subst e
          rcases hr2.own.2 with ⟨_, h0⟩ | ⟨g, cap, cur, hv, _⟩
          · exact h0
          · cases hv
        clear hr1 hr2 hm1 hm2 hb1 hb2
        go_wp2_with (at_builtin; refine wpList_append_sl w3 w3 rfl _ _ _ rfl el_row v1 _ _ rfl (own_kept HR1.out.own HB2.out) rfl (Sl.of_own HR2.out.own) hnn (vals_one l2) (by unfold maxLen; omega) (by omega) (by omega) (brefl _ |>.mono (by omega)) ?_; intro v3 w4 hown3 hb3 hgr _)
        go_ret
        refine ⟨v3, l1 ++ l2, rfl, (HR1.out.join HB2.out HR2.out hown3 hgr (by omega)).base hsn, ?_, ?_⟩
        · rw [List.map_append, HM1.out, HM2.out, rowsP_cut hle hcut]
        · exact HB.out.trans (hb3.mono (by omega))

    · have w6 : IntKind.i64.wrap 18 = 18 := by decide
      by_cases h1 : lo / 262144 = hi / 262144
      · have HQ := Lib.hid h1
        have q1 : (lo / 262144 == hi / 262144) = true := by simpa using h1
        have q2 : decide (lo / 262144 = hi / 262144) = true := by simpa using h1
        clear h1
        go_wp2_with fail
        go_quiet (fail)
        have hbq := below_drewN hbw nq
        generalize wr.drewN nq = wq at *
        go_wp2_with fail
        go_roundw
        case rel => exact ⟨4, by omega, rfl, nocut_next3 HN.out (by have := HQ.out; omega), hbq⟩
        case measure => simp [intOf]
      have q1 : (lo / 262144 == hi / 262144) = false := by simpa using h1
      have q2 : decide (lo / 262144 = hi / 262144) = false := by simpa using h1
      by_cases h2 : szC lo ≤ 3
      · have HQ := Lib.hid h2
        have q3 : decide (szC lo ≤ 3) = true := by simpa using h2
        clear h1 h2
        go_wp2_with fail
        go_region_held3 (fun w' => Below w.heap.size w w') (first | assumption | exact below_drewN hbw 1 | go_keep) (first
          | (go_at_call 70; refine (HS.out _).mono ?_; rintro e wn ⟨rfl, hbn⟩; have hBn := bcall (by assumption) hbn))
        go_wp2_with fail
        go_roundw
        case rel => exact ⟨4, by omega, rfl, nocut_next3 HN.out (by have := HQ.out; omega), by first | assumption | exact below_drewN hbw 1⟩
        case measure => simp [intOf]
      have q3 : decide (szC lo ≤ 3) = false := by simpa using h2
      have n1 := and_low 18 (by omega) lo (by omega) (by omega)
      have o1 := or_low 18 (by omega) lo (by omega) (by omega)
      simp only [Int.reducePow, Int.reduceSub] at n1 o1
      by_cases h3 : lo % 262144 ≠ 0
      · have hcut := cut_lo3 HN.out h1 (by omega) h3
        have hin := cut_in hle hcut
        obtain ⟨x, hx⟩ : ∃ x, lo - lo % 262144 + 262143 = x := ⟨_, rfl⟩
        rw [hx] at o1
        obtain ⟨r, hr⟩ : ∃ r, lo % 262144 = r := ⟨_, rfl⟩
        rw [hr] at n1
        have hxe : lo - lo % 262144 + 262144 = x + 1 := by omega
        rw [hxe] at hcut hin
        have hcl1 : Cls lo x := by have := HK.out; unfold Cls at *; omega
        have hcl2 : Cls (x + 1) hi := by have := HK.out; unfold Cls at *; omega
        have q4 : (r == 0) = false := by simp; omega
        have q5 : (r != 0) = true := by simp; omega
        have q6 : ¬ r = 0 := by omega
        have hx0 : 0 ≤ x := by omega
        clear h1 h2 h3 hx hr hxe
        go_wp2_with fail
        go_region_held3 (fun w' => Below w.heap.size w w') (first | assumption | exact below_drewN hbw 1 | go_keep) (first
          | (go_at_call 70; refine (HS.out _).mono ?_; rintro e wn ⟨rfl, hbn⟩; have hBn := bcall (by assumption) hbn))
        go_wp2_with fail
        ((with_reducible refine (ih lo x _ (by omega) (by omega) hcl1).mono ?_))
        rintro e w2 ⟨v1, l1, rfl, hr1, hm1, hb1⟩
        go_wp2_with fail
        ((with_reducible refine (ih (x + 1) hi _ (by omega) (by omega) hcl2).mono ?_))
        rintro e w3 ⟨v2, l2, rfl, hr2, hm2, hb2⟩
        have hn1 : (l1.length : Int) ≤ 1114112 := by
          have h := rows_len (lo := lo) (hi := x) (by omega) hcl1
          rw [← hm1, List.length_map] at h
          omega
        have hn2 : (l2.length : Int) ≤ 1114112 := by
          have h := rows_len (lo := (x + 1)) (hi := hi) (by omega) hcl2
          rw [← hm2, List.length_map] at h
          omega
        have HR1 := Lib.hid hr1
        have HR2 := Lib.hid hr2
        have HM1 := Lib.hid hm1
        have HM2 := Lib.hid hm2
        have HB := Lib.hid (bcall hBn (bcall hb1 hb2))
        have hs2 := hb1.size
        have hs3 := hb2.size
        have hsn := hBn.size
        have HB2 := Lib.hid hb2
        obtain ⟨A2, c2, rfl, _⟩ := own_shape hr2.own
        have hnn : A2 = none → l2.length = 0 := by
          intro e
          subst e
          rcases hr2.own.2 with ⟨_, h0⟩ | ⟨g, cap, cur, hv, _⟩
          · exact h0
          · cases hv
        clear hr1 hr2 hm1 hm2 hb1 hb2
        go_wp2_with (at_builtin; refine wpList_append_sl w3 w3 rfl _ _ _ rfl el_row v1 _ _ rfl (own_kept HR1.out.own HB2.out) rfl (Sl.of_own HR2.out.own) hnn (vals_one l2) (by unfold maxLen; omega) (by omega) (by omega) (brefl _ |>.mono (by omega)) ?_; intro v3 w4 hown3 hb3 hgr _)
        go_ret
        refine ⟨v3, l1 ++ l2, rfl, (HR1.out.join HB2.out HR2.out hown3 hgr (by omega)).base hsn, ?_, ?_⟩
        · rw [List.map_append, HM1.out, HM2.out, rowsP_cut hle hcut]
          congr 2
          all_goals first | rfl | omega
        · exact HB.out.trans (hb3.mono (by omega))
      have h3 : lo % 262144 = 0 := by omega
      have n2 := and_low 18 (by omega) hi (by omega) (by omega)
      simp only [Int.reducePow, Int.reduceSub] at n2
      rw [h3] at n1
      by_cases h4 : hi % 262144 = 262143
      · have HQ := Lib.hid (And.intro h3 h4)
        rw [h4] at n2
        clear h1 h2 h3 h4 o1
        go_wp2_with fail
        go_region_held3 (fun w' => Below w.heap.size w w') (first | assumption | exact below_drewN hbw 1 | go_keep) (first
          | (go_at_call 70; refine (HS.out _).mono ?_; rintro e wn ⟨rfl, hbn⟩; have hBn := bcall (by assumption) hbn))
        go_wp2_with fail
        go_roundw
        case rel => exact ⟨4, by omega, rfl, nocut_next3 HN.out (by have := HQ.out; omega), by first | assumption | exact below_drewN hbw 1⟩
        case measure => simp [intOf]
      · have hcut := cut_hi3 HN.out h1 (by omega) h3 h4
        have hin := cut_in hle hcut
        obtain ⟨r, hr⟩ : ∃ r, hi % 262144 = r := ⟨_, rfl⟩
        rw [hr] at n2
        obtain ⟨y, hy⟩ : ∃ y, hi - hi % 262144 = y := ⟨_, rfl⟩
        rw [hy] at hcut hin
        have o2 : bits .andNot .i64 hi 262143 = y := by rw [andnot_low3 hi c2 (by omega)]; exact hy
        have hcl1 : Cls lo (y - 1) := by have := HK.out; unfold Cls at *; omega
        have hcl2 : Cls y hi := by have := HK.out; unfold Cls at *; omega
        have q4 : (r == 262143) = false := by simp; omega
        have q5 : (r != 262143) = true := by simp; omega
        have q6 : ¬ r = 262143 := by omega
        have hy0 : 0 ≤ y := by omega
        clear h1 h2 h3 h4 hr hy o1
        go_wp2_with fail
        go_region_held3 (fun w' => Below w.heap.size w w') (first | assumption | exact below_drewN hbw 1 | go_keep) (first
          | (go_at_call 70; refine (HS.out _).mono ?_; rintro e wn ⟨rfl, hbn⟩; have hBn := bcall (by assumption) hbn))
        go_wp2_with fail
        ((with_reducible refine (ih lo (y - 1) _ (by omega) (by omega) hcl1).mono ?_))
        rintro e w2 ⟨v1, l1, rfl, hr1, hm1, hb1⟩
        go_wp2_with fail
        ((with_reducible refine (ih y hi _ (by omega) (by omega) hcl2).mono ?_))
        rintro e w3 ⟨v2, l2, rfl, hr2, hm2, hb2⟩
        have hn1 : (l1.length : Int) ≤ 1114112 := by
          have h := rows_len (lo := lo) (hi := (y - 1)) (by omega) hcl1
          rw [← hm1, List.length_map] at h
          omega
        have hn2 : (l2.length : Int) ≤ 1114112 := by
          have h := rows_len (lo := y) (hi := hi) (by omega) hcl2
          rw [← hm2, List.length_map] at h
          omega
        have HR1 := Lib.hid hr1
        have HR2 := Lib.hid hr2
        have HM1 := Lib.hid hm1
        have HM2 := Lib.hid hm2
        have HB := Lib.hid (bcall hBn (bcall hb1 hb2))
        have hs2 := hb1.size
        have hs3 := hb2.size
        have hsn := hBn.size
        have HB2 := Lib.hid hb2
        obtain ⟨A2, c2, rfl, _⟩ := own_shape hr2.own
        have hnn : A2 = none → l2.length = 0 := by
          intro e
          subst e
          rcases hr2.own.2 with ⟨_, h0⟩ | ⟨g, cap, cur, hv, _⟩
          · exact h0
          · cases hv
        clear hr1 hr2 hm1 hm2 hb1 hb2
        go_wp2_with (at_builtin; refine wpList_append_sl w3 w3 rfl _ _ _ rfl el_row v1 _ _ rfl (own_kept HR1.out.own HB2.out) rfl (Sl.of_own HR2.out.own) hnn (vals_one l2) (by unfold maxLen; omega) (by omega) (by omega) (brefl _ |>.mono (by omega)) ?_; intro v3 w4 hown3 hb3 hgr _)
        go_ret
        refine ⟨v3, l1 ++ l2, rfl, (HR1.out.join HB2.out HR2.out hown3 hgr (by omega)).base hsn, ?_, ?_⟩
        · rw [List.map_append, HM1.out, HM2.out, rowsP_cut hle hcut]
        · exact HB.out.trans (hb3.mono (by omega))

    · have hcut := Lib.hid (cut_none HN.out)
      have hE1 := Lib.hid (encode_one (w := wr) lo HW1.out)
      have hE2 := Lib.hid (fun w => encode_one w hi HW2.out)
      obtain ⟨s1, e1⟩ : ∃ s, strOfNums (encC lo) = s := ⟨_, rfl⟩
      obtain ⟨s2, e2⟩ : ∃ s, strOfNums (encC hi) = s := ⟨_, rfl⟩
      rw [e1] at hE1
      rw [e2] at hE2
      have E1 := Lib.hid e1
      have E2 := Lib.hid e2
      clear e1 e2 HS
      go_wp2_with fail
      ((with_reducible refine (hE1.out).mono ?_))
      rintro e w1 ⟨rfl, hb1⟩
      go_wp2_with fail
      ((with_reducible refine (hE2.out _).mono ?_))
      rintro e w2 ⟨rfl, hb2⟩
      have hB2 := bcall hbw (bcall hb1 hb2)
      have hs1 : s1.size = (encC lo).length := by rw [← E1.out, strOfNums_size]
      have hs2 : s2.size = (encC lo).length := by rw [← E2.out, strOfNums_size]; exact Eq.symm (cls_len hle HK.out)
      have hs4 := encC_len lo
      have hs12 := Lib.hid (hs2.trans hs1.symm)
      have HS1 := Lib.hid hs1
      have hle1 : s1.size ≤ s2.size := by omega
      have hle4 : s1.size ≤ 4 := by omega
      clear hb1 hb2 hbw hsw hs1 hs2 hs4 hE1 hE2
      go_wp2_with fail
      go_loopw [84, 11] (fun i v wq => LeafR w2 s1 s2 i v wq) (fun i _ _ => s1.size - (intOf i).toNat)
      case atStart => exact ⟨0, Nat.zero_le _, rfl, by simpa [flatR] using own_lit w2 61 2 rfl (Nat.le_refl _), bnew (brefl w2) _⟩
      case round =>
        obtain ⟨k, hk, rfl, hown, hbl⟩ := hrel
        by_cases hlt : k < s1.size
        · have hlt2 : k < s2.size := by omega
          have i0 : (0 : Int) ≤ (k : Int) := by omega
          have i1 : (k : Int) < (s1.size : Int) := by omega
          have i2 : (k : Int) < (s2.size : Int) := by omega
          have HO := Lib.hid hown
          have HB := Lib.hid hbl
          clear hown hbl
          go_wp2_with fail
          have x1 : IntKind.i64.wrap ((s1[k].toNat : Nat) : Int) = ((s1[k].toNat : Nat) : Int) := IntWalk.i64_in _ (by have := s1[k].toNat_lt; omega)
          have x2 : IntKind.i64.wrap ((s2[k].toNat : Nat) : Int) = ((s2[k].toNat : Nat) : Int) := IntWalk.i64_in _ (by have := s2[k].toNat_lt; omega)
          go_region_held3 (fun w' => True) (trivial) ((refine step_pushm w2 wr _ _ (by rfl) _ _ _ (by rfl) el_range _ _ _ (by rfl) HO.out (nb := wr.heap.size) (m := 1) (by rfl) rfl (bnew (brefl wr) _).drew (by simp) (heap_alloc_new wr _) (by rfl) (by simp [Value.oneCell']) (by omega) (by unfold maxLen; omega) (by omega) HB.out.size HB.out ?_; intro g cap w3 hown3 hb3))
          clear x1 x2
          all_goals
            go_wp2_with fail
            go_roundw
            case rel =>
              refine ⟨k + 1, by omega, by go_num, ?_, hb3⟩
              rw [zip_snoc hlt hlt2]
              exact hown3
            case measure => simp [intOf]; omega
        · obtain rfl : k = s1.size := by omega
          obtain ⟨A, c, rfl, hc⟩ := own_shape hown
          have HO := Lib.hid hown
          have HB := Lib.hid hbl
          clear hown hbl
          have hz : zipS s1 s2 = leafC lo hi := by rw [← E1.out, ← E2.out]; exact zip_strs (encC_byte c0 c3) (encC_byte c2 c1)
          have hzl : (leafC lo hi).length = s1.size := by unfold leafC; rw [List.length_zip, ← cls_len hle HK.out, HS1.out]; omega
          have hO2 := HO.out
          rw [hz, ← hzl, List.take_length] at hO2
          have hpos : 0 < (leafC lo hi).length := by have := (encC_len lo).1; have := HS1.out; omega
          have HF := Lib.hid (fun n (h : (leafC lo hi).length = n) => leaf_rows hB2 HB.out hO2 hpos h (rowsP_leaf hcut.out))
          have HZ := Lib.hid hzl
          clear hz hzl hO2 hpos
          go_wp2_with fail
          go_ret
          exact HF.out _ HZ.out

theorem rows_any (lo hi : Int) (w : World) (hle : lo ≤ hi) (hk : Cls lo hi) : Calls Tryd.prog 54 #[.int .i64 lo, .int .i64 hi] w (RowsOf w (rowsP lo hi)) := by
  have key : ∀ N : Nat, ∀ lo hi (w : World), (hi - lo).toNat < N → lo ≤ hi → Cls lo hi → Calls Tryd.prog 54 #[.int .i64 lo, .int .i64 hi] w (RowsOf w (rowsP lo hi)) := by
    intro N
    induction N with
    | zero => intro lo hi w h; omega
    | succ N ih => intro lo hi w h h1 h2; exact rows_step N ih lo hi w h h1 h2
  exact key _ lo hi w (Nat.lt_succ_self _) hle hk
end Go.Proofs.YtclahhkcbkpofaaDoor.Sp
