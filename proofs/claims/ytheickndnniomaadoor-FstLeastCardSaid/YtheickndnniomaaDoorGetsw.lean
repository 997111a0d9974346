/- The walk of FstGets. -/
import Derived.Test.YtheickndnniomaaDoorArgs
import Derived.Test.YtheickndnniomaaDoorAwake
import Derived.Test.YtheickndnniomaaDoorNodeg
namespace Go.Proofs.YtheickndnniomaaDoor
open Go.RowKit Go.Maps

theorem EntsIn.keep {w w' : World} {A : Option Addr} {n c : Nat} {l : List Ent} (h : EntsIn w A n c l) (hb : Below w.heap.size w w') : Ents w' w.heap.size A n c l := h.ents.keep hb (Nat.le_refl _)
/-- A row whose cells may be written. -/
def Room (W : World) (g n : Nat) : Prop := ∃ cs, W.heap[g]? = some (.cells cs 26 (0, 0)) ∧ n * 2 ≤ cs.size
theorem own_room {W : World} {base n : Nat} {v : Value} {xs : List Value} (h : W.ownsRow base 26 2 v n xs) : (v = .slice none 0 0 ∧ n = 0) ∨ ∃ g c, v = .slice (some ⟨g, 0, none⟩) n c ∧ base ≤ g ∧ n ≤ c ∧ Room W g n := by
  rcases h.2 with h0 | ⟨g, cap, cur, hv, hb, hg, h1, h2, h3, _⟩
  · exact .inl h0
  · exact .inr ⟨g, cap, hv, hb, h1, cur, hg, by rw [h3]; exact Nat.mul_le_mul_right _ h1⟩
theorem Room.below {W W' : World} {g n : Nat} (h : Room W g n) (hb : Below W.heap.size W W') : Room W' g n := by
  obtain ⟨cs, h1, h2⟩ := h
  exact ⟨cs, (hb.block g (Array.getElem?_eq_some_iff.1 h1).1).trans h1, h2⟩
theorem Room.set {W : World} {g n : Nat} (h : Room W g n) (j : Nat) (u : Value) : Room (W.setCell ⟨g, j, none⟩ u) g n := by
  obtain ⟨cs, h1, h2⟩ := h
  exact ⟨_, blk_set h1 u, by simpa using h2⟩
theorem Room.free {W : World} {g n : Nat} (h : Room W g n) (j : Nat) : W.frozen? ⟨g, j, none⟩ = false := by
  obtain ⟨cs, h1, _⟩ := h
  exact free_at h1 j
theorem Room.cell {W : World} {g n : Nat} (h : Room W g n) {j : Nat} (hj : j < n * 2) : ∃ v, W.cell? ⟨g, j, none⟩ = some v := by
  obtain ⟨cs, h1, h2⟩ := h
  exact ⟨_, cell_of_row _ g j _ _ (0, 0) h1 |>.trans (Array.getElem?_eq_getElem (by omega))⟩
theorem own_set' {w : World} {b e s n k j : Nat} {v u : Value} {xs : List Value} (h : w.ownsRow b e s v n xs) (hb : k < b) : (w.setCell ⟨k, j, none⟩ u).ownsRow b e s v n xs := own_set h hb
set_option maxRecDepth 100000 in
set_option maxHeartbeats 40000000 in
theorem gets_walk (w : World) (A : Option Addr) (n c : Nat) (l : List Ent) (h : EntsIn w A n c l) (A' : Option Addr) (m c' : Nat) (y : Nat → ByteArray) (h' : TextsIn w A' m c' y) (ht : Tab w) :
    Calls Tryd.prog 5 #[.slice A n c, .slice A' m c'] w fun e w' => e = .returned (.bool true) ∧ Below w.heap.size w w' := by
  have HT := Lib.hid ht
  have HE := Lib.hid h
  have HX := Lib.hid h'
  have hlen := h.ents.len
  have hcm := h.ents.cm
  have hnc := h.ents.nc
  clear h h' ht
  go_enter Tryd.func5, Tryd.ntmps5
  go_wp2_with fail
  refine (awake_any _ HT.out).mono ?_
  rintro e w1 ⟨rfl, hb1⟩
  have HB1 := Lib.hid hb1
  clear hb1
  go_wp2_with fail
  refine (light_any _ w.heap.size HB1.out.size A n c l (HE.out.keep HB1.out) HE.out.lens).mono ?_
  rintro e w2 ⟨rfl, hb2⟩
  have HB2 := Lib.hid (bcall HB1.out hb2)
  clear hb2 HB1
  by_cases hli : lightB l = true
  · have hn120 : n ≤ 120 := by
      unfold lightB at hli
      simp only [Bool.and_eq_true, decide_eq_true_eq] at hli
      omega
    rw [hli]
    clear hli
    go_wp2_with fail
    refine (rright_any _ w.heap.size HB2.out.size A n c l (HE.out.keep HB2.out)).mono ?_
    rintro e w3 ⟨rfl, hb3⟩
    have HB3 := Lib.hid (bcall HB2.out hb3)
    clear hb3 HB2
    by_cases hr : rightE l = 0
    · rw [hr]
      have hB := built_of hr HE.out.fits
      have HLZ := buildZ_len hB
      have HBU := Lib.hid (build_any w3 w.heap.size HB3.out.size A n c l (HE.out.keep HB3.out) HE.out.fits (HT.out.below HB3.out))
      have hS : buildS l = ⟨(by8 (buildZ l)).toArray⟩ := by unfold buildS; rw [if_pos hr]; rfl
      have hlz : (by8 (buildZ l)).length ≤ 1099511627776 := by rw [by8_length]; exact HLZ
      have HOP := Lib.hid (fun (W : World) (ht : Tab W) => open_any W (by8 (buildZ l)) hlz ht)
      rw [hr, hS] at HBU
      rw [open_build hr HE.out.fits] at HOP
      have HFI := Lib.hid hB.inv.fine
      have HLK := Lib.hid (fun t => get_look hB HE.out.fits t)
      have HAL := Lib.hid (all_built hB HE.out.fits)
      have hdl := hB.len
      clear hB HLZ hS hlz hr
      generalize by8 (buildZ l) = t at *
      generalize buildDs l = ds at *
      generalize baseOf l = base at *
      go_wp2_with fail
      refine HBU.out.mono ?_
      rintro e w4 ⟨rfl, hb4⟩
      have HB4 := Lib.hid (bcall HB3.out hb4)
      clear hb4 HB3 HBU
      go_wp2_with fail
      refine (HOP.out w4 (HT.out.below HB4.out)).mono ?_
      rintro e w5 ⟨hb5, ⟨_, p, B, dn, k, A3, hs, rfl, hd, hm, _, _⟩ | ⟨hne, _⟩⟩
      · have HB5 := Lib.hid (bcall HB4.out hb5)
        have HD5 := Lib.hid hd
        have HM := Lib.hid hm
        clear hb5 HB4 HOP hd hm
        simp only at HD5 HM
        rw [hlen] at HD5
        have hdn : dn ≤ 1125899906842624 := by
          have h1 := congrArg List.length HM.out
          rw [List.length_map, HD5.out.len] at h1
          omega
        have HA5 := Lib.hid (all_any w5 p B dn k A3 base n hs HD5.out (by rw [HM.out]; exact HFI.out) (by rw [HM.out, HAL.out]; omega) hdn)
        rw [HM.out, HAL.out, hlen] at HA5
        go_wp2_with fail
        refine HA5.out.mono ?_
        rintro e w6 ⟨v6, rfl, hrow6, hb6⟩
        have HC6 := Lib.hid hb6
        have HR6 := Lib.hid hrow6
        clear hb6 hrow6 HA5
        have HA6 := Lib.hid (all_any w6 p B dn k A3 base n hs (HD5.out.keep HC6.out) (by rw [HM.out]; exact HFI.out) (by rw [HM.out, HAL.out]; omega) hdn)
        rw [HM.out, HAL.out, hlen] at HA6
        go_wp2_with fail
        refine HA6.out.mono ?_
        rintro e w7 ⟨v7, rfl, hrow7, hb7⟩
        have HC7 := Lib.hid (bcall HC6.out hb7)
        have HRM : Hid (0 < n → ∃ g cg, v6 = .slice (some ⟨g, 0, none⟩) n cg ∧ w5.heap.size ≤ g ∧ g < w6.heap.size ∧ Room w7 g n) := fun hn0 => by
          rcases own_room HR6.out with ⟨_, h0⟩ | ⟨g, cg, hv, hg, _, hro⟩
          · omega
          · exact ⟨g, cg, hv, hg, (HR6.out.lt g (by rw [hv]; rfl)).2, hro.below hb7⟩
        have HA7 := Lib.hid (own_kept HR6.out hb7)
        have HR7 := Lib.hid hrow7
        have HS56 := Lib.hid HC6.out.size
        clear hb7 hrow7 HA6 HC6 HR6
        obtain ⟨Aa, ca, rfl, hca⟩ := own_shape HA7.out
        obtain ⟨Ab, cb, rfl, hcb⟩ := own_shape HR7.out
        go_wp2_with fail
        refine (dcount_any w7 p B dn k A3 base n hs (HD5.out.keep HC7.out)).mono ?_
        rintro e w8 ⟨rfl, hb8⟩
        have HC8 := Lib.hid (bcall HC7.out hb8)
        have HA8 := Lib.hid (own_kept HA7.out hb8)
        have HR8 := Lib.hid (own_kept HR7.out hb8)
        have HRM8 : Hid (0 < n → ∃ g, Aa = some ⟨g, 0, none⟩ ∧ w5.heap.size ≤ g ∧ g < w6.heap.size ∧ Room w8 g n) := fun hn0 => by
          obtain ⟨g, cg, hv, h1, h2, h3⟩ := HRM.out hn0
          injection hv with hv _ _
          exact ⟨g, hv, h1, h2, h3.below hb8⟩
        clear hb8 HC7 HA7 HR7 HRM
        have HEW : Hid (∀ W, Below w5.heap.size w5 W → Ents W w.heap.size A n c l ∧ w.heap.size ≤ W.heap.size) := fun W hb => ⟨HE.out.keep (HB5.out.trans (hb.mono HB5.out.size)), Nat.le_trans HB5.out.size hb.size⟩
        go_wp2_with fail
        refine (Same_any w8 w8.heap.size (Nat.le_refl _) Aa A n ca n c l l ⟨by have := Sl.of_own HA8.out; exact this, hca, hcm⟩ ((HEW.out w8 HC8.out).1.keep (Below.refl _ _) (HEW.out w8 HC8.out).2)).mono ?_
        rintro e w9 ⟨rfl, hb9⟩
        have HC9 := Lib.hid (bcall HC8.out hb9)
        have HR9 := Lib.hid (own_kept HR8.out hb9)
        have HRM9 : Hid (0 < n → ∃ g, Aa = some ⟨g, 0, none⟩ ∧ w5.heap.size ≤ g ∧ g < w6.heap.size ∧ Room w9 g n) := fun hn0 => by
          obtain ⟨g, hv, h1, h2, h3⟩ := HRM8.out hn0
          exact ⟨g, hv, h1, h2, h3.below hb9⟩
        clear hb9 HC8 HA8 HR8 HRM8
        rw [decide_eq_true rfl]
        go_wp2_with fail
        go_loopw [13] (fun iv wr => ∃ q : Nat, q ≤ n ∧ iv = .int .i64 q ∧ Hid (Below w5.heap.size w5 wr) ∧ Hid (wr.ownsRow w6.heap.size 26 2 (.slice Ab n cb) n (entsC l)) ∧ Hid (0 < n → ∃ g, Aa = some ⟨g, 0, none⟩ ∧ w5.heap.size ≤ g ∧ g < w6.heap.size ∧ Room wr g n)) (fun iv _ => n - (intOf iv).toNat)
        case atStart => exact ⟨0, Nat.zero_le _, rfl, HC9, HR9, HRM9⟩
        case round =>
          obtain ⟨q, hq, rfl, HC, HR, HRM⟩ := hrel
          by_cases hlt : q < n
          · obtain ⟨g, rfl, hg1, hg2, hro⟩ := HRM.out (by omega)
            have fr0 := hro.free (q * 2)
            have fr1 := (hro.set (q * 2) (.string ⟨#[]⟩)).free (q * 2 + 1)
            obtain ⟨o0, ho0⟩ := hro.cell (j := q * 2) (by omega)
            obtain ⟨o1, ho1⟩ := (hro.set (q * 2) (.string ⟨#[]⟩)).cell (j := q * 2 + 1) (by omega)
            have HRO := Lib.hid ((hro.set (q * 2) (.string ⟨#[]⟩)).set (q * 2 + 1) (.int .i64 (-1)))
            have HBS := Lib.hid (below_set (below_set HC.out (k := g) (j := q * 2) (u := .string ⟨#[]⟩) hg1 (Nat.le_refl _)) (k := g) (j := q * 2 + 1) (u := .int .i64 (-1)) hg1 (Nat.le_refl _))
            have HRS := Lib.hid (own_set (own_set HR.out (k := g) (j := q * 2) (u := .string ⟨#[]⟩) hg2) (k := g) (j := q * 2 + 1) (u := .int .i64 (-1)) hg2)
            clear hro HC HR HRM
            go_wp2_with fail
            go_roundw
            case rel => exact ⟨q + 1, by omega, by go_num, HBS, HRS, fun _ => ⟨g, rfl, hg1, hg2, HRO.out⟩⟩
            case measure => simp [intOf]; omega
          · obtain rfl : q = n := by omega
            clear HC9 HR9 HRM9 HRM
            have hm16 : m ≤ 8796093022208 := by
              have := HX.out.rb
              unfold reachBytes at this
              omega
            have hmc := HX.out.nc
            obtain ⟨S, hS⟩ : ∃ S, q + m = S := ⟨_, rfl⟩
            have hw0 : IntKind.i64.wrap ((q : Int) + (m : Int)) = (S : Int) := by rw [← hS, Int.natCast_add]; exact IntWalk.i64_in _ (by omega)
            have HS := Lib.hid hS
            have hSq : q ≤ S ∧ S ≤ 8796093022328 := by omega
            obtain ⟨hSq1, hSq2⟩ := hSq
            clear hS
            go_wp2_with fail
            go_loopw [14] (fun iv wr => ∃ j : Nat, j ≤ S ∧ iv = .int .i64 j ∧ Hid (Below w5.heap.size w5 wr) ∧ Hid (wr.ownsRow w6.heap.size 26 2 (.slice Ab q cb) q (entsC l))) (fun iv _ => S - (intOf iv).toNat)
            case atStart => exact ⟨0, Nat.zero_le _, rfl, HC, HR⟩
            case round =>
              clear HC HR
              obtain ⟨j, hj, rfl, HC, HR⟩ := hrel
              by_cases hlt2 : j < S
              · by_cases hjq : j < q
                obtain ⟨e, he⟩ : ∃ e, l[j]? = some e := ⟨l[j]'(by omega), List.getElem?_eq_getElem _⟩
                obtain ⟨b, off, rfl, hb, hcell⟩ := (HEW.out _ HC.out).1.at_ (by omega)
                obtain ⟨d0, _⟩ := hcell j e he
                have htl := HE.out.lens e (List.mem_of_getElem? he)
                obtain ⟨tt, htt⟩ : ∃ tt, e.1 = tt := ⟨_, rfl⟩
                rw [htt] at d0 htl
                clear hcell he htt
                go_wp2_with fail
                rotate_left
                obtain ⟨i, hi⟩ : ∃ i, j - q = i := ⟨_, rfl⟩
                have him : i < m := by have := HS.out; omega
                have him2 : (i : Int) < (m : Int) := by omega
                obtain ⟨b, off, rfl, hb, hcell⟩ := HX.out.sl.at_ (by omega)
                have hc0 := hcell i (.string (y i)) (by rw [List.getElem?_map, List.getElem?_range him]; rfl)
                obtain ⟨tt, htt⟩ : ∃ tt : List UInt8, y i = ⟨tt.toArray⟩ := ⟨(y i).data.toList, by cases y i; simp⟩
                have htl : tt.length ≤ 140737488355328 := by
                  have h1 := HX.out.sz i him
                  rw [htt] at h1
                  have h2 : (⟨tt.toArray⟩ : ByteArray).size = tt.length := size_mk tt
                  rw [h2] at h1
                  unfold reachBytes at h1
                  omega
                rw [htt] at hc0
                have d0 := ((HB5.out.trans (HC.out.mono HB5.out.size)).cell (p := ⟨b, off + i, none⟩) hb).trans hc0
                have hw3 : (j : Int) - (q : Int) = (i : Int) := by omega
                have q7 : decide (j < q) = false := by simp; omega
                clear hcell hc0 htt hi hjq
                go_wp2_with fail
                have hix : (Instr.indexAt 40 (.slice (some ⟨b, off, none⟩) m c') (.int .i64 (i : Int))).run Tryd.prog wr = .ok (.pointer (some ⟨b, off + i, none⟩)) wr := by
                  rw [run_indexAt_slice (h := by kernel_rfl), if_pos ⟨by omega, him2⟩]
                  simp [go_sem, Tryd.underlying40, Addr.add_lit]
                rw [hw3, hix]
                clear hw3 hix
                go_wp2_with fail
                rotate_left
                all_goals
                  have HGE := Lib.hid (get_any _ p B dn k A3 base q hs (HD5.out.keep HC.out) (by rw [HM.out]; exact HFI.out) tt (by omega))
                  rw [HM.out, HLK.out] at HGE
                  refine HGE.out.mono ?_
                  rintro e wa ⟨rfl, hba⟩
                  have HCa := Lib.hid (bcall HC.out hba)
                  have HRa := Lib.hid (own_kept HR.out hba)
                  clear hba HGE
                  go_wp2_with fail
                  refine (rget_any wa w.heap.size (HEW.out _ HCa.out).2 _ q c l (HEW.out _ HCa.out).1 tt).mono ?_
                  rintro e wb ⟨rfl, hbb⟩
                  have HCb := Lib.hid (bcall HCa.out hbb)
                  have HRb := Lib.hid (own_kept HRa.out hbb)
                  clear hbb HCa HRa HC HR
                  generalize optZ (lookE l tt) = rz at *
                  generalize (lookE l tt).isSome = rb at *
                  have q8 : (rz != rz) = false := by simp
                  have q9 : (rb != rb) = false := by cases rb <;> rfl
                  go_wp2_with fail
                  go_roundw
                  case rel => exact ⟨j + 1, by omega, by go_num, HCb, HRb⟩
                  case measure => simp [intOf]; omega
              · obtain rfl : j = S := by omega
                go_wp2_with fail
                refine (Same_any wr wr.heap.size (Nat.le_refl _) Ab A q cb q c l l ⟨by have := Sl.of_own HR.out; exact this, hcb, hcm⟩ ((HEW.out wr HC.out).1.keep (Below.refl _ _) (HEW.out wr HC.out).2)).mono ?_
                rintro e wb ⟨rfl, hbb⟩
                have HCb := Lib.hid (bcall HC.out hbb)
                rw [decide_eq_true rfl]
                go_wp2_with fail
                go_ret
                exact ⟨rfl, HB5.out.trans (HCb.out.mono HB5.out.size)⟩
      · exact absurd rfl hne
    · have q1 : (rightE l != 0) = true := by simpa using hr
      generalize rightE l = r at *
      go_wp2_with fail
      refine (awake_any _ (HT.out.below HB3.out)).mono ?_
      rintro e w4 ⟨rfl, hb4⟩
      go_wp2_with fail
      go_ret
      exact ⟨rfl, bcall HB3.out hb4⟩
  · rw [show lightB l = false by simpa using hli]
    go_wp2_with fail
    refine (awake_any _ (HT.out.below HB2.out)).mono ?_
    rintro e w4 ⟨rfl, hb4⟩
    go_wp2_with fail
    go_ret
    exact ⟨rfl, bcall HB2.out hb4⟩
theorem gets_walkx (w : World) (A : Option Addr) (n c : Nat) (x : Nat → tEnt.den) (h : EntsIn w A n c (entL n x)) (A' : Option Addr) (m c' : Nat) (y : Nat → Ty.str.den) (h' : TextsIn w A' m c' y) (ht : Tab w) :
    Calls Tryd.prog 5 #[.slice A n c, .slice A' m c'] w fun e w' => e = .returned (.bool true) ∧ Below w.heap.size w w' := gets_walk w A n c (entL n x) h A' m c' y h' ht
end Go.Proofs.YtheickndnniomaaDoor
