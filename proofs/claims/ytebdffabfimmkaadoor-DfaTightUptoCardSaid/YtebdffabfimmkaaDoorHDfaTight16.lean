/- The reference's Check, Step, Accepts (glossref08). -/
import Derived.Test.YtebdffabfimmkaaDoorHDfaTight7
import Derived.Deep.RegionLaw
import Derived.Test.YtebdffabfimmkaaDoorHDfaTight15
namespace Go.Proofs.YtebdffabfimmkaaDoor
open Go.RowKit

set_option maxRecDepth 100000 in
set_option maxHeartbeats 8000000 in
theorem rstep_any (w : World) (B : Nat) (hB : B ≤ w.heap.size) (A : Option Addr) (n c : Nat) (H : List Sh) (h : StsIn w B A n c H) (z ch : Int) :
    Calls Tryd.prog 14 #[.slice A n c, .int .i64 z, .int .i64 ch] w fun e w' => e = .returned (.int .i64 (stepI (H.map (·.d)) z ch)) ∧ Below w.heap.size w w' := by
  have HS := Lib.hid h
  have hlen := h.len
  have hcm := h.cm
  by_cases hz : z < 0
  · have q1 : decide (z < 0) = true := decide_eq_true hz
    have HE : Hid (stepI (H.map (·.d)) z ch = -1) := if_pos (.inl hz)
    clear h hlen hz
    go_enter Tryd.func14, Tryd.ntmps14
    go_wp2_with fail
    go_ret
    exact ⟨by rw [HE.out]; rfl, brefl w⟩
  by_cases hzn : (n : Int) ≤ z
  · have q1 : decide (z < 0) = false := decide_eq_false hz
    have q2 : decide (z ≥ (n : Int)) = true := decide_eq_true hzn
    have HE : Hid (stepI (H.map (·.d)) z ch = -1) := if_pos (.inr (by rw [List.length_map, hlen]; exact hzn))
    clear h hlen hz hzn
    go_enter Tryd.func14, Tryd.ntmps14
    go_wp2_with fail
    go_ret
    exact ⟨by rw [HE.out]; rfl, brefl w⟩
  obtain ⟨k, rfl⟩ := Int.eq_ofNat_of_zero_le (show 0 ≤ z by omega)
  have hkn : k < n := by omega
  obtain ⟨x, hx⟩ : ∃ x, H[k]? = some x := ⟨H[k]'(by omega), List.getElem?_eq_getElem _⟩
  have HE : Hid (stepI (H.map (·.d)) (k : Nat) ch = (lookA x.d.2 ch).getD (-1)) := by
    show _ = _
    unfold stepI
    rw [if_neg (by rw [List.length_map, hlen]; omega), Int.toNat_natCast, List.getElem?_map, hx]
    rfl
  obtain ⟨b, off, rfl, hb, hcell⟩ := h.at_ (by omega)
  have hxm := List.mem_of_getElem? hx
  obtain ⟨m, hm⟩ : ∃ m, x.d.2.length = m := ⟨_, rfl⟩
  have hm47 := (h.ar x hxm).2.2
  have hmc := (h.ar x hxm).2.1
  rw [hm] at hm47 hmc
  have HM := Lib.hid hm
  have HXM := Lib.hid hxm
  have HX := Lib.hid hx
  have q1 : decide ((k : Int) < 0) = false := decide_eq_false (by omega)
  have q2 : decide ((k : Int) ≥ (n : Int)) = false := decide_eq_false (by omega)
  have q3 : decide (k ≥ n) = false := decide_eq_false (by omega)
  have i0 : (0 : Int) ≤ (k : Int) := by omega
  have i1 : (k : Int) < (n : Int) := by omega
  clear h hx hcell hxm hm hz hzn
  go_enter Tryd.func14, Tryd.ntmps14
  go_wp2_with fail
  clear q1 q2 q3
  go_loopw [7] (fun jv wj => ∃ j : Nat, j ≤ m ∧ jv = .int .i64 j ∧ Hid (lookA x.d.2 ch = lookA (x.d.2.drop j) ch) ∧ Hid (Below w.heap.size w wj)) (fun jv _ => m - (intOf jv).toNat)
  case atStart => exact ⟨0, Nat.zero_le _, rfl, rfl, brefl w⟩
  case round =>
    obtain ⟨j, hj, rfl, HO, HBJ⟩ := hrel
    have HWJ := Lib.hid (HS.out.keep (HBJ.out.mono hB) (Nat.le_refl _))
    obtain ⟨b', off', hbb, _, hcell⟩ := HWJ.out.at_ (by omega)
    injection hbb with hbb
    injection hbb with hb1 hb2 _
    subst hb1 hb2
    obtain ⟨_, k1⟩ := hcell k x HX.out
    rw [HM.out] at k1
    clear hcell
    by_cases hjm : j < m
    · obtain ⟨ab, aoff, hxA, hab, hac⟩ := HWJ.out.arc HXM.out (by rw [HM.out]; omega)
      obtain ⟨a, ha⟩ : ∃ a, x.d.2[j]? = some a := ⟨x.d.2[j]'(by rw [HM.out]; exact hjm), List.getElem?_eq_getElem _⟩
      obtain ⟨a0, a1, a2⟩ := hac j a ha
      have habw : ab < wr.heap.size := Nat.lt_of_lt_of_le hab (Nat.le_trans hB HBJ.out.size)
      have hdrop : x.d.2.drop j = a :: x.d.2.drop (j + 1) := by
        obtain ⟨h1, h2⟩ := List.getElem?_eq_some_iff.1 ha
        rw [List.drop_eq_getElem_cons h1, h2]
      rw [hdrop, lookA_cons] at HO
      have HBN := Lib.hid (bnew HBJ.out (.cells #[.int .i64 a.1, .int .i64 a.2.1, .int .i64 a.2.2] 41))
      rw [hxA] at k1
      clear hac ha hdrop
      obtain ⟨lo, hi, tt⟩ := a
      simp only at a0 a1 a2 HO HBN
      by_cases c1 : lo ≤ ch
      · have p1 : decide (lo ≤ ch) = true := decide_eq_true c1
        by_cases c2 : ch ≤ hi
        · have p2 : decide (ch ≤ hi) = true := decide_eq_true c2
          have HE2 : Hid (stepI (H.map (·.d)) (k : Nat) ch = tt) := by
            show _ = _
            rw [HE.out, HO.out, if_pos ⟨c1, c2⟩]
            rfl
          clear c1 c2
          go_wp2_with fail
          go_ret
          exact ⟨by rw [HE2.out]; rfl, by first | exact HBN.out | exact HBJ.out⟩
        · have p2 : decide (ch ≤ hi) = false := decide_eq_false c2
          rw [if_neg (by omega)] at HO
          clear c1 c2
          go_wp2_with fail
          go_roundw
          case rel => exact ⟨j + 1, by omega, by go_num, HO, by first | exact HBN | exact HBJ⟩
          case measure => simp [intOf]; omega
      · have p1 : decide (lo ≤ ch) = false := decide_eq_false c1
        rw [if_neg (by omega)] at HO
        clear c1
        go_wp2_with fail
        go_roundw
        case rel => exact ⟨j + 1, by omega, by go_num, HO, by first | exact HBN | exact HBJ⟩
        case measure => simp [intOf]; omega
    · obtain rfl : j = m := by omega
      have HE2 : Hid (stepI (H.map (·.d)) (k : Nat) ch = -1) := by
        show _ = _
        rw [HE.out, HO.out, List.drop_of_length_le (by rw [HM.out]; exact Nat.le_refl _)]
        rfl
      go_wp2_with fail
      go_ret
      exact ⟨by rw [HE2.out]; rfl, HBJ.out⟩
set_option maxRecDepth 100000 in
set_option maxHeartbeats 8000000 in
theorem rcheck_any (w : World) (B : Nat) (hB : B ≤ w.heap.size) (A : Option Addr) (n c : Nat) (H : List Sh) (h : StsIn w B A n c H) :
    Calls Tryd.prog 10 #[.slice A n c] w fun e w' => e = .returned (.int .i64 (checkE (H.map (·.d)))) ∧ Below w.heap.size w w' := by
  have HS := Lib.hid h
  have hlen := h.len
  have hcm := h.cm
  by_cases h0 : n = 0
  · subst h0
    have hH : H = [] := List.eq_nil_of_length_eq_zero hlen
    have HE : Hid (checkE (H.map (·.d)) = 1) := by rw [hH]; rfl
    clear h hlen hH
    go_enter Tryd.func10, Tryd.ntmps10
    go_wp2_with fail
    go_ret
    exact ⟨by rw [HE.out]; rfl, brefl w⟩
  have q0 : ((n : Int) == 0) = false := by simp; omega
  have q01 : (n == 0) = false := by simp; omega
  by_cases hbig : 20000 < n
  · have q1 : decide ((n : Int) > 20000) = true := decide_eq_true (by omega)
    have q2 : decide (n > 20000) = true := decide_eq_true (by omega)
    have HE : Hid (checkE (H.map (·.d)) = 8) := by
      show _ = _
      unfold checkE
      rw [if_neg (by intro e; rw [List.map_eq_nil_iff] at e; rw [e] at hlen; exact h0 hlen.symm), List.length_map, hlen, if_pos hbig]
    clear h hlen hbig
    go_enter Tryd.func10, Tryd.ntmps10
    go_wp2_with fail
    go_ret
    exact ⟨by rw [HE.out]; rfl, brefl w⟩
  have q1 : decide ((n : Int) > 20000) = false := decide_eq_false (by omega)
  have q2 : decide (n > 20000) = false := decide_eq_false (by omega)
  have HE : Hid (checkE (H.map (·.d)) = if (H.map (·.d)).all (fun s => okA n (-1) s.2) then 0 else 3) := by
    show _ = _
    unfold checkE
    rw [if_neg (by intro e; rw [List.map_eq_nil_iff] at e; rw [e] at hlen; exact h0 hlen.symm), List.length_map, hlen, if_neg hbig]
  clear h hbig
  go_enter Tryd.func10, Tryd.ntmps10
  go_wp2_with fail
  clear q0 q01 q1 q2
  go_loopw [3] (fun iv wr => ∃ k : Nat, k ≤ n ∧ iv = .int .i64 k ∧ Hid (∀ x ∈ H.take k, okA n (-1) x.d.2 = true) ∧ Hid (Below w.heap.size w wr)) (fun iv _ => n - (intOf iv).toNat)
  case atStart => exact ⟨0, Nat.zero_le _, rfl, fun x hx => by simp at hx, brefl w⟩
  case round =>
    obtain ⟨k, hk, rfl, HK, HB⟩ := hrel
    by_cases hlt : k < n
    · obtain ⟨x, hx⟩ : ∃ x, H[k]? = some x := ⟨H[k]'(by omega), List.getElem?_eq_getElem _⟩
      have hxm := List.mem_of_getElem? hx
      have hxar := HS.out.ar x hxm
      obtain ⟨m, hm⟩ : ∃ m, x.d.2.length = m := ⟨_, rfl⟩
      have hm47 := hxar.2.2
      have hmc := hxar.2.1
      rw [hm] at hm47 hmc
      obtain ⟨b, off, rfl, hb, _⟩ := HS.out.at_ (by omega)
      have HM := Lib.hid hm
      have HXM := Lib.hid hxm
      have HXK := Lib.hid hx
      have i0 : (0 : Int) ≤ (k : Int) := by omega
      have i1 : (k : Int) < (n : Int) := by omega
      clear hx hxm hxar hm
      have H0 : Hid (okA n (-1) x.d.2 = okA n (-1) (x.d.2.drop 0) ∧ ((0 = 0 ∧ (-1 : Int) = -1) ∨ ∃ pa, x.d.2[0 - 1]? = some pa ∧ (-1 : Int) = pa.2.1 ∧ 0 < 0)) := ⟨rfl, .inl ⟨rfl, rfl⟩⟩
      go_wp2_with fail
      go_loopw [4] (fun jv wj => ∃ (j : Nat) (last : Int), j ≤ m ∧ jv = .int .i64 j ∧ -1 ≤ last ∧ Hid (okA n (-1) x.d.2 = okA n last (x.d.2.drop j) ∧ ((j = 0 ∧ last = -1) ∨ ∃ pa, x.d.2[j - 1]? = some pa ∧ last = pa.2.1 ∧ 0 < j)) ∧ Hid (Below w.heap.size w wj)) (fun jv _ => m - (intOf jv).toNat)
      case atStart => exact ⟨0, -1, Nat.zero_le _, rfl, by omega, ⟨rfl, .inl ⟨rfl, rfl⟩⟩, HB⟩
      case round =>
        clear H0
        obtain ⟨j, last, hj, rfl, hl1, HO, HBJ⟩ := hrel
        have HWJ := Lib.hid (HS.out.keep (HBJ.out.mono hB) (Nat.le_refl _))
        obtain ⟨b', off', hbb, _, hcell⟩ := HWJ.out.at_ (by omega)
        injection hbb with hbb
        injection hbb with hb1 hb2 _
        subst hb1 hb2
        obtain ⟨_, k1⟩ := hcell k x HXK.out
        rw [HM.out] at k1
        have hbw : b < wr.heap.size := Nat.lt_of_lt_of_le hb (Nat.le_trans hB HBJ.out.size)
        clear hcell
        by_cases hjm : j < m
        · obtain ⟨ab, aoff, hxA, hab, hac⟩ := HWJ.out.arc HXM.out (by rw [HM.out]; omega)
          obtain ⟨a, ha⟩ : ∃ a, x.d.2[j]? = some a := ⟨x.d.2[j]'(by rw [HM.out]; exact hjm), List.getElem?_eq_getElem _⟩
          obtain ⟨a0, a1, a2⟩ := hac j a ha
          have habw : ab < wr.heap.size := Nat.lt_of_lt_of_le hab (Nat.le_trans hB HBJ.out.size)
          have hdrop : x.d.2.drop j = a :: x.d.2.drop (j + 1) := by
            obtain ⟨h1, h2⟩ := List.getElem?_eq_some_iff.1 ha
            rw [List.drop_eq_getElem_cons h1, h2]
          have hoo := HO.out.1
          rw [hdrop, okA] at hoo
          have HOO := Lib.hid hoo
          have HBN := Lib.hid (bnew HBJ.out (.cells #[.int .i64 a.1, .int .i64 a.2.1, .int .i64 a.2.2] 41))
          rw [hxA] at k1
          have HA := Lib.hid ha
          have hpv : j = 0 ∧ last = -1 ∨ 0 < j ∧ wr.cell? ⟨ab, aoff + (j - 1) * 3 + 1, none⟩ = some (.int .i64 last) := by
            rcases HO.out.2 with h | ⟨pa, h1, h2, h3⟩
            · exact .inl h
            · exact .inr ⟨h3, by rw [h2]; exact (hac (j - 1) pa h1).2.1⟩
          clear hac ha hdrop hoo HO
          obtain ⟨lo, hi, tt⟩ := a
          simp only at a0 a1 a2 HOO HBN
          have HBAD : Hid (¬ (last < lo ∧ lo ≤ hi ∧ hi ≤ 255 ∧ 0 ≤ tt ∧ tt < (n : Int)) → checkE (H.map (·.d)) = 3) := fun hbad => by
            rw [HE.out, if_neg]
            rw [List.all_eq_true]
            intro h
            have := h x.d (List.mem_map_of_mem HXM.out)
            rw [HOO.out, decide_eq_false hbad] at this
            simp at this
          by_cases c1 : lo < 0
          · have p1 : decide (lo < 0) = true := decide_eq_true c1
            have HB3 := Lib.hid (HBAD.out (by omega))
            clear hpv c1
            go_wp2_with fail
            go_region
            all_goals
              go_wp2_with fail
              go_ret
              exact ⟨by rw [HB3.out]; rfl, by first | exact HBN.out | exact Below.drew HBN.out⟩
          have p1 : decide (lo < 0) = false := decide_eq_false c1
          by_cases c2 : 255 < hi
          · have p2 : decide (hi > 255) = true := decide_eq_true c2
            have HB3 := Lib.hid (HBAD.out (by omega))
            clear hpv c1
            go_wp2_with fail
            go_region
            all_goals
              go_wp2_with fail
              go_ret
              exact ⟨by rw [HB3.out]; rfl, by first | exact HBN.out | exact Below.drew HBN.out⟩
          have p2 : decide (hi > 255) = false := decide_eq_false c2
          by_cases c3 : hi < lo
          · have p3 : decide (lo > hi) = true := decide_eq_true c3
            have HB3 := Lib.hid (HBAD.out (by omega))
            clear hpv c1 c2
            go_wp2_with fail
            go_region
            all_goals
              go_wp2_with fail
              go_ret
              exact ⟨by rw [HB3.out]; rfl, by first | exact HBN.out | exact Below.drew HBN.out⟩
          have p3 : decide (lo > hi) = false := decide_eq_false c3
          by_cases c4 : tt < 0
          · have p4 : decide (tt < 0) = true := decide_eq_true c4
            have HB3 := Lib.hid (HBAD.out (by omega))
            clear hpv c1 c2 c3
            go_wp2_with fail
            go_region
            all_goals
              go_wp2_with fail
              go_ret
              exact ⟨by rw [HB3.out]; rfl, by first | exact HBN.out | exact Below.drew HBN.out⟩
          have p4 : decide (tt < 0) = false := decide_eq_false c4
          by_cases c5 : (n : Int) ≤ tt
          · have p5 : decide (tt ≥ (n : Int)) = true := decide_eq_true c5
            have HB3 := Lib.hid (HBAD.out (by omega))
            clear hpv c1 c2 c3 c4
            go_wp2_with fail
            go_region
            all_goals
              go_wp2_with fail
              go_ret
              exact ⟨by rw [HB3.out]; rfl, by first | exact HBN.out | exact Below.drew HBN.out⟩
          have p5 : decide (tt ≥ (n : Int)) = false := decide_eq_false c5
          have hrelN : last < lo → Hid (okA n (-1) x.d.2 = okA n hi (x.d.2.drop (j + 1)) ∧ ((j + 1 = 0 ∧ hi = -1) ∨ ∃ pa, x.d.2[j + 1 - 1]? = some pa ∧ hi = pa.2.1 ∧ 0 < j + 1)) := fun hll => by
            refine ⟨?_, .inr ⟨(lo, hi, tt), HA.out, rfl, by omega⟩⟩
            rw [HOO.out, decide_eq_true (by omega)]
            rfl
          rcases hpv with ⟨hj0, hl0⟩ | ⟨hj0, kp⟩
          · have HON := hrelN (by omega)
            have hhi : -1 ≤ hi := by omega
            have p6 : decide ((j : Int) > 0) = false := decide_eq_false (by omega)
            have p7 : decide (j > 0) = false := decide_eq_false (by omega)
            clear c1 c2 c3 c4 c5 hrelN hl0 hj0
            go_wp2_with fail
            go_region
            all_goals
              go_wp2_with fail
              go_roundw
              case rel => exact ⟨j + 1, hi, by omega, by go_num, hhi, HON, by first | exact HBN | exact Below.drew HBN.out⟩
              case measure => simp [intOf]; omega
          · have p6 : decide ((j : Int) > 0) = true := decide_eq_true (by omega)
            have p7 : decide (j > 0) = true := decide_eq_true (by omega)
            obtain ⟨jp, hjp⟩ : ∃ p, j - 1 = p := ⟨_, rfl⟩
            have hidx : (j : Int) - 1 = (jp : Int) := by omega
            rw [hjp] at kp
            have i2 : (0 : Int) ≤ (jp : Int) := by omega
            have i3 : (jp : Int) < (m : Int) := by omega
            by_cases c6 : lo ≤ last
            · have p8 : decide (last ≥ lo) = true := decide_eq_true c6
              have HB3 := Lib.hid (HBAD.out (by omega))
              clear c1 c2 c3 c4 c5 hrelN hjp
              go_wp2_with fail
              go_region
              all_goals
                go_wp2_with fail
                go_ret
                exact ⟨by rw [HB3.out]; rfl, by first | exact HBN.out | exact Below.drew HBN.out⟩
            · have p8 : decide (last ≥ lo) = false := decide_eq_false c6
              have HON := hrelN (by omega)
              have hhi : -1 ≤ hi := by omega
              clear c1 c2 c3 c4 c5 c6 hrelN hjp
              go_wp2_with fail
              go_region
              all_goals
                go_wp2_with fail
                go_roundw
                case rel => exact ⟨j + 1, hi, by omega, by go_num, hhi, HON, by first | exact HBN | exact Below.drew HBN.out⟩
                case measure => simp [intOf]; omega
        · obtain rfl : j = m := by omega
          have hok : okA n (-1) x.d.2 = true := by
            rw [HO.out.1, List.drop_of_length_le (by rw [HM.out]; exact Nat.le_refl _)]
            rfl
          have HKN : Hid (∀ y ∈ H.take (k + 1), okA n (-1) y.d.2 = true) := fun y hy => by
            rw [List.take_add_one, HXK.out] at hy
            rcases List.mem_append.1 hy with hy | hy
            · exact HK.out y hy
            · rw [List.mem_singleton.1 hy]; exact hok
          clear hok
          go_wp2_with fail
          go_roundw
          case rel => exact ⟨k + 1, by omega, by go_num, HKN, HBJ⟩
          case measure => simp [intOf]; omega
    · obtain rfl : k = n := by omega
      have hall : H.take k = H := List.take_of_length_le (by omega)
      rw [hall] at HK
      have HE2 : Hid (checkE (H.map (·.d)) = 0) := by
        show _ = _
        rw [HE.out, if_pos]
        rw [List.all_eq_true]
        intro s hs
        obtain ⟨x, hx, rfl⟩ := List.mem_map.1 hs
        exact HK.out x hx
      go_wp2_with fail
      go_ret
      exact ⟨by rw [HE2.out]; rfl, HB.out⟩
set_option maxRecDepth 100000 in
set_option maxHeartbeats 8000000 in
theorem raccepts_any (w : World) (B : Nat) (hB : B ≤ w.heap.size) (A : Option Addr) (n c : Nat) (H : List Sh) (h : StsIn w B A n c H) (t : List UInt8) (ht : t.length ≤ 1125899906842624) :
    Calls Tryd.prog 12 #[.slice A n c, .string ⟨t.toArray⟩] w fun e w' => e = .returned (.bool (takesB (H.map (·.d)) t)) ∧ Below w.heap.size w w' := by
  have HS := Lib.hid h
  have hlen := h.len
  have hcm := h.cm
  have HC := Lib.hid (rcheck_any w B hB A n c H h)
  by_cases hg : checkE (H.map (·.d)) = 0
  rotate_left
  · have HE : Hid (takesB (H.map (·.d)) t = false) := by
      show _ = _
      unfold takesB
      rw [decide_eq_false hg]
      rfl
    obtain ⟨E, hE⟩ : ∃ E, checkE (H.map (·.d)) = E := ⟨_, rfl⟩
    rw [hE] at HC hg
    have q1 : (E != 0) = true := by simpa using hg
    clear h hlen hg hE
    go_enter Tryd.func12, Tryd.ntmps12
    go_wp2_with fail
    refine HC.out.mono ?_
    rintro e w1 ⟨rfl, hb1⟩
    go_wp2_with fail
    go_ret
    exact ⟨by rw [HE.out]; rfl, hb1⟩
  have HG := Lib.hid ((good_iff _).1 hg)
  have HE : Hid (takesB (H.map (·.d)) t = (auOf (H.map (·.d))).acc 0 (bytesN t)) := by
    show _ = _
    unfold takesB
    rw [decide_eq_true hg]
    rfl
  rw [hg] at HC
  have hn0 : 0 < n := by
    have := List.length_pos_iff.2 HG.out.ne
    rw [List.length_map] at this
    omega
  clear h hg
  go_enter Tryd.func12, Tryd.ntmps12
  go_wp2_with fail
  refine HC.out.mono ?_
  rintro e w1 ⟨rfl, hb1⟩
  have HB1 := Lib.hid hb1
  clear hb1 HC
  go_wp2_with fail
  obtain ⟨M, hM⟩ : ∃ M, auOf (H.map (·.d)) = M := ⟨_, rfl⟩
  obtain ⟨R, hR⟩ : ∃ R, M.acc 0 (bytesN t) = R := ⟨_, rfl⟩
  rw [hM, hR] at HE
  have HM := Lib.hid hM
  have H0 : Hid (((0 : Int) = -1 ∧ R = false) ∨ ∃ x : Nat, (0 : Int) = x ∧ x < n ∧ R = M.acc x (bytesN (t.drop 0))) := .inr ⟨0, rfl, hn0, hR.symm⟩
  clear hM hR
  go_loopw [5, 6] (fun zv iv wr => ∃ (i : Nat) (z : Int), i ≤ t.length ∧ iv = .int .i64 i ∧ zv = .int .i64 z ∧ Hid ((z = -1 ∧ R = false) ∨ ∃ x : Nat, z = x ∧ x < n ∧ R = M.acc x (bytesN (t.drop i))) ∧ Hid (Below w.heap.size w wr)) (fun _ iv _ => t.length - (intOf iv).toNat)
  case atStart => exact ⟨0, 0, Nat.zero_le _, rfl, rfl, H0, HB1⟩
  case round =>
    clear H0 HB1
    obtain ⟨i, z, hi, rfl, rfl, HZ, HB⟩ := hrel
    have HW := Lib.hid (HS.out.keep (HB.out.mono hB) (Nat.le_refl _))
    rcases HZ.out with ⟨rfl, hR⟩ | ⟨x, rfl, hxn, hR⟩
    · by_cases hil : i < t.length
      · have g1 : decide ((i : Int) < (t.length : Int)) = true := decide_eq_true (by omega)
        have g2 : decide (i < t.length) = true := decide_eq_true hil
        have hz := byte_at t i (by show i < t.toArray.size; simpa using hil)
        obtain ⟨b8, hb8⟩ : ∃ b : Nat, (t.getD i 0).toNat = b := ⟨_, rfl⟩
        have hb256 : b8 < 256 := by rw [← hb8]; exact (t.getD i 0).toNat_lt
        rw [hb8] at hz
        have HSTEP := Lib.hid (rstep_any wr B (Nat.le_trans hB HB.out.size) A n c H HW.out (-1) (b8 : Nat))
        have hst : stepI (H.map (·.d)) (-1) (b8 : Nat) = -1 := if_pos (.inl (by omega))
        rw [hst] at HSTEP
        have hwc : IntKind.i64.wrap (b8 : Int) = (b8 : Int) := IntWalk.i64_in _ (by omega)
        have i0 : (0 : Int) ≤ (i : Int) := by omega
        have i1 : (i : Int) < (t.length : Int) := by omega
        have HRF : Hid (R = false) := hR
        clear hR hb8 hst
        go_wp2_with fail
        refine HSTEP.out.mono ?_
        rintro e w2 ⟨rfl, hb2⟩
        have HB2 := Lib.hid (bcall HB.out hb2)
        clear hb2
        go_wp2_with fail
        go_roundw
        case rel => exact ⟨i + 1, -1, by omega, by go_num, rfl, Lib.hid (.inl ⟨rfl, HRF.out⟩), HB2⟩
        case measure => simp [intOf]; omega
      · have HE2 : Hid (takesB (H.map (·.d)) t = false) := HE.out.trans hR
        have g1 : decide ((i : Int) < (t.length : Int)) = false := decide_eq_false (by omega)
        have g2 : decide (i < t.length) = false := decide_eq_false hil
        clear hR
        go_wp2_with fail
        go_ret
        exact ⟨by rw [HE2.out]; rfl, HB.out⟩
    · by_cases hil : i < t.length
      · have g1 : decide ((i : Int) < (t.length : Int)) = true := decide_eq_true (by omega)
        have g2 : decide (i < t.length) = true := decide_eq_true hil
        have hwc : ∀ b : Nat, b < 256 → IntKind.i64.wrap (b : Int) = (b : Int) := fun b hb => IntWalk.i64_in _ (by omega)
        have hz := byte_at t i (by show i < t.toArray.size; simpa using hil)
        obtain ⟨b8, hb8⟩ : ∃ b : Nat, (t.getD i 0).toNat = b := ⟨_, rfl⟩
        have hb256 : b8 < 256 := by rw [← hb8]; exact (t.getD i 0).toNat_lt
        have hdrop : bytesN (t.drop i) = b8 :: bytesN (t.drop (i + 1)) := by
          rw [List.drop_eq_getElem_cons hil, ← hb8, List.getD_eq_getElem?_getD, List.getElem?_eq_getElem hil]
          rfl
        rw [hb8] at hz
        have hst := stepI_au HG.out (x := x) (by rw [List.length_map, hlen]; exact hxn) b8
        rw [HM.out, List.length_map, hlen] at hst
        rw [hdrop, Au.acc, if_pos hb256] at hR
        have HSTEP := Lib.hid (rstep_any wr B (Nat.le_trans hB HB.out.size) A n c H HW.out (x : Nat) (b8 : Nat))
        have i0 : (0 : Int) ≤ (i : Int) := by omega
        have i1 : (i : Int) < (t.length : Int) := by omega
        have HN : Hid ((stepI (H.map (·.d)) (x : Nat) (b8 : Nat) = -1 ∧ R = false) ∨ ∃ y : Nat, stepI (H.map (·.d)) (x : Nat) (b8 : Nat) = y ∧ y < n ∧ R = M.acc y (bytesN (t.drop (i + 1)))) := by
          rcases hst with ⟨h1, h2⟩ | ⟨y, h1, h2, h3⟩
          · rw [h2] at hR
            exact .inl ⟨h1, hR⟩
          · rw [h2] at hR
            exact .inr ⟨y, h1, h3, hR⟩
        have hwc2 := hwc b8 hb256
        clear hwc
        generalize stepI (H.map (·.d)) (x : Nat) (b8 : Nat) = z2 at *
        clear hR hdrop hst hb8
        go_wp2_with fail
        refine HSTEP.out.mono ?_
        rintro e w2 ⟨rfl, hb2⟩
        have HB2 := Lib.hid (bcall HB.out hb2)
        clear hb2
        go_wp2_with fail
        go_roundw
        case rel => exact ⟨i + 1, z2, by omega, by go_num, rfl, HN, HB2⟩
        case measure => simp [intOf]; omega
      · obtain rfl : i = t.length := by omega
        obtain ⟨b, off, rfl, hb, hcell⟩ := HW.out.at_ hn0
        obtain ⟨y, hy⟩ : ∃ y, H[x]? = some y := ⟨H[x]'(by omega), List.getElem?_eq_getElem _⟩
        obtain ⟨k0, _⟩ := hcell x y hy
        have hfin : R = y.d.1 := by
          rw [hR, List.drop_of_length_le (Nat.le_refl _)]
          show M.fin x = _
          rw [← HM.out]
          show (((H.map (·.d))[x]?).map (·.1)).getD false = _
          rw [List.getElem?_map, hy]
          rfl
        have HE2 : Hid (takesB (H.map (·.d)) t = y.d.1) := HE.out.trans hfin
        have g1 : decide ((t.length : Int) < (t.length : Int)) = false := decide_eq_false (by omega)
        have g2 : decide (t.length < t.length) = false := decide_eq_false (by omega)
        have g3 : decide ((x : Int) ≥ 0) = true := decide_eq_true (by omega)
        have g4 : decide ((x : Int) < (n : Int)) = true := decide_eq_true (by omega)
        have g5 : decide (x < n) = true := decide_eq_true hxn
        have i0 : (0 : Int) ≤ (x : Int) := by omega
        have i1 : (x : Int) < (n : Int) := by omega
        clear hR hfin hcell hy
        go_wp2_with fail
        go_ret
        exact ⟨by rw [HE2.out]; rfl, HB.out⟩
end Go.Proofs.YtebdffabfimmkaaDoor
/- The reference's to. -/
namespace Go.Proofs.YtebdffabfimmkaaDoor
open Go.RowKit Go.Maps

def toZ (d : List St) (L : List Bool) (i c : Nat) : Int := match toG d L i c with
  | some y => (y : Int)
  | none => -1
set_option maxRecDepth 100000 in
set_option maxHeartbeats 8000000 in
theorem to_any (w : World) (B : Nat) (hB : B ≤ w.heap.size) (A : Option Addr) (n c : Nat) (H : List Sh) (h : StsIn w B A n c H) (hg : Good (H.map (·.d))) (Ag : Option Addr) (cg : Nat) (L : List Bool) (hL : Sl w w.heap.size 1 Ag n (L.map .bool)) (i ch : Nat) (hi : i < n) :
    Calls Tryd.prog 40 #[.slice A n c, .slice Ag n cg, .int .i64 (i : Int), .int .i64 (ch : Int)] w fun e w' => e = .returned (.int .i64 (toZ (H.map (·.d)) L i ch)) ∧ Below w.heap.size w w' := by
  have HS := Lib.hid h
  have HL := Lib.hid hL
  have hlen := h.len
  have hdl : (H.map (·.d)).length = n := by rw [List.length_map]; exact hlen
  have hst := stepI_au hg (x := i) (by rw [hdl]; exact hi) ch
  rw [hdl] at hst
  have hLl : L.length = n := by have := hL.1; rw [List.length_map] at this; omega
  clear h hL hg hdl
  go_enter Tryd.func40, Tryd.ntmps40
  go_wp2_with fail
  refine (rstep_any w B hB A n c H HS.out (i : Int) (ch : Int)).mono ?_
  rintro e w1 ⟨rfl, hb1⟩
  have HB1 := Lib.hid hb1
  clear hb1
  rcases hst with ⟨h1, h2⟩ | ⟨y, h1, h2, hy⟩
  · have HE : Hid (toZ (H.map (·.d)) L i ch = -1) := by show _ = _; unfold toZ toG; rw [h2]
    rw [h1]
    clear h1 h2
    go_wp2_with fail
    go_ret
    exact ⟨by rw [HE.out]; rfl, HB1.out⟩
  · obtain ⟨b, hb⟩ : ∃ b, L[y]? = some b := ⟨L[y]'(by omega), List.getElem?_eq_getElem _⟩
    have HE : Hid (toZ (H.map (·.d)) L i ch = if b then -1 else (y : Int)) := by
      show _ = _
      unfold toZ toG
      rw [h2]
      simp only [hb]
      cases b <;> simp
    obtain ⟨sb, so, rfl, hsb, hsc⟩ := HL.out.at_ (show 0 < n by omega)
    have s0 := (HB1.out.cell (p := ⟨sb, so + y, none⟩) hsb).trans (hsc y (.bool b) (by rw [List.getElem?_map, hb]; rfl))
    have hsw : sb < w1.heap.size := Nat.lt_of_lt_of_le hsb HB1.out.size
    have hy2 : (y : Int) < (n : Int) := by omega
    have q0 : decide ((y : Int) ≥ 0) = true := decide_eq_true (by omega)
    rw [h1]
    clear h1 h2 hb hsc
    cases b
    all_goals
      go_wp2_with fail
      go_ret
      exact ⟨by rw [HE.out]; rfl, HB1.out⟩
end Go.Proofs.YtebdffabfimmkaaDoor
