/- The reference's reading of numbers (glossref01.long, ReadNum, ReadCount). -/
import Derived.Test.YtheickndnniomaaDoorDigit
import Derived.Test.YtheickndnniomaaDoorParse
import Derived.Deep.RegionHeld3
import Derived.Deep.RegionHeld3
namespace Go.Proofs.YtheickndnniomaaDoor
open Go.RowKit

theorem by8_take (t : List UInt8) : ∀ k, k ≤ t.length → by8 ((List.range k).map fun i => ((byteN t i : Nat) : Int)) = t.take k
  | 0, _ => rfl
  | k + 1, h => by
    rw [List.range_succ, List.map_append, by8_append, by8_take t k (by omega), List.take_add_one, List.getElem?_eq_getElem (by omega)]
    congr 1
    show [UInt8.ofNat ((byteN t k : Nat) : Int).toNat] = [t[k]]
    congr 1
    unfold byteN
    rw [List.getD_eq_getElem?_getD, List.getElem?_eq_getElem (show k < t.length by omega)]
    simp
theorem flip_flip (fl : Bool) {c : Nat} (h : c < 256) : flipZ fl ((flipN fl c : Nat) : Int) = (c : Int) := by
  unfold flipZ flipN
  cases fl <;> simp <;> omega
theorem range_cons (f : Nat → Int) (k : Nat) : (List.range (k + 1)).map f = f 0 :: (List.range k).map fun i => f (i + 1) := by
  rw [List.range_succ_eq_map, List.map_cons, List.map_map]
  rfl
/-- The form of the number is just what stands there, but where a needless digit leads. -/
theorem num_take {fl : Bool} {t : List UInt8} {k : Nat} {hd : Nat → Int} (h1 : 1 ≤ k) (h8 : k ≤ 8) (hlen : k < t.length) (h0 : (byteN t 0 : Int) = hd k) (hinj : ∀ j, 1 ≤ j → j ≤ 8 → hd j = hd k → j = k) (hr : ∀ j, 1 ≤ j → j ≤ 8 → 0 ≤ hd j ∧ hd j < 256) :
    strOfNums (hd (placesB fl (accN fl t k)).length :: placesB fl (accN fl t k)) = ⟨(t.take (k + 1)).toArray⟩ ↔ ¬ (1 < k ∧ flipN fl (byteN t 1) = 0) := by
  obtain ⟨s1, s2⟩ := szN_acc fl t h1 h8
  have ha := accN_in fl t k
  have hx : accN fl t k < 18446744073709551616 := Nat.lt_of_lt_of_le ha (Nat.le_trans (Nat.pow_le_pow_right (by omega) h8) (by decide))
  have hpl : placesB fl (accN fl t k) = (beZ (szN (accN fl t k)) (accN fl t k)).map (flipZ fl) := by
    unfold placesB
    rw [← places_be (szN (accN fl t k)) (accN fl t k) hx rfl]
  have hL : (placesB fl (accN fl t k)).length = szN (accN fl t k) := by rw [hpl, List.length_map, beZ_length]
  have hp := szN_pos (accN fl t k)
  rw [← s1, hL, str_by8]
  constructor
  · intro h
    have h2 : by8 (hd (szN (accN fl t k)) :: placesB fl (accN fl t k)) = t.take (k + 1) := by
      have := congrArg (fun b : ByteArray => b.data.toList) h
      simpa using this
    have h3 : UInt8.ofNat (hd (szN (accN fl t k))).toNat = t[0]'(by omega) := by
      have := congrArg (fun l : List UInt8 => l[0]?) h2
      simp only [by8, List.map_cons, List.getElem?_cons_zero, List.getElem?_take] at this
      rw [if_pos (by omega), List.getElem?_eq_getElem (by omega)] at this
      injection this
    have h4 : byteN t 0 = (t[0]'(by omega)).toNat := by
      unfold byteN
      rw [List.getD_eq_getElem?_getD, List.getElem?_eq_getElem (show 0 < t.length by omega)]
      rfl
    rw [← h3] at h4
    obtain ⟨r1, r2⟩ := hr (szN (accN fl t k)) hp (by omega)
    have h5 : (UInt8.ofNat (hd (szN (accN fl t k))).toNat).toNat = (hd (szN (accN fl t k))).toNat := by
      simp
      omega
    rw [h5] at h4
    exact hinj _ hp (by omega) (by rw [← h0, h4]; omega)
  · intro h
    rw [h]
    have h2 : placesB fl (accN fl t k) = (List.range k).map fun i => ((byteN t (i + 1) : Nat) : Int) := by
      rw [hpl, h, beZ_acc]
      unfold digits
      rw [List.map_map]
      apply List.map_congr_left
      intro i _
      exact flip_flip fl (byteN_in t (i + 1))
    rw [h2, ← h0, ← range_cons (fun i => ((byteN t i : Nat) : Int)), by8_take t (k + 1) (by omega)]
def longZ (h : Nat) : Int := if 240 ≤ h ∧ h ≤ 247 then (h : Int) - 239 else if 8 ≤ h ∧ h ≤ 15 then 16 - (h : Int) else if 16 ≤ h ∧ h < 240 then 0 else -1
set_option maxRecDepth 100000 in
set_option maxHeartbeats 8000000 in
theorem long_any (w : World) (h : Nat) (hb : h < 256) : Calls Tryd.prog 59 #[.int .u8 (h : Nat)] w fun e w' => e = .returned (.int .i64 (longZ h)) ∧ w' = w := by
  obtain ⟨H, hH⟩ : ∃ H : Int, (h : Int) = H := ⟨_, rfl⟩
  have HZ : Hid (longZ h = if 240 ≤ H ∧ H ≤ 247 then H - 239 else if 8 ≤ H ∧ H ≤ 15 then 16 - H else if 16 ≤ H ∧ H < 240 then 0 else -1) := by
    show _ = _
    unfold longZ
    rw [← hH]
    repeat (first | rfl | (split <;> split) | omega)
  have h0 : 0 ≤ H ∧ H < 256 := by omega
  rw [hH]
  have hw1 : IntKind.i64.wrap H = H := IntWalk.i64_in _ (by omega)
  obtain ⟨ha, hc⟩ := h0
  clear hH hb
  obtain ⟨b1, p1⟩ : ∃ b, decide (H ≥ 240) = b := ⟨_, rfl⟩
  obtain ⟨b2, p2⟩ : ∃ b, decide (H ≤ 247) = b := ⟨_, rfl⟩
  obtain ⟨b3, p3⟩ : ∃ b, decide (H ≥ 8) = b := ⟨_, rfl⟩
  obtain ⟨b4, p4⟩ : ∃ b, decide (H ≤ 15) = b := ⟨_, rfl⟩
  obtain ⟨b5, p5⟩ : ∃ b, decide (H ≥ 16) = b := ⟨_, rfl⟩
  obtain ⟨b6, p6⟩ : ∃ b, decide (H < 240) = b := ⟨_, rfl⟩
  have HP : Hid ((decide (H ≥ 240) = b1) ∧ (decide (H ≤ 247) = b2) ∧ (decide (H ≥ 8) = b3) ∧ (decide (H ≤ 15) = b4) ∧ (decide (H ≥ 16) = b5) ∧ (decide (H < 240) = b6)) := ⟨p1, p2, p3, p4, p5, p6⟩
  have hw2 : 240 ≤ H → H ≤ 247 → IntKind.i64.wrap (H - 239) = H - 239 := fun _ _ => IntWalk.i64_in _ (by omega)
  cases b1 <;> cases b2 <;> cases b3 <;> cases b4 <;> cases b5 <;> cases b6
  all_goals first
    | (exfalso; simp only [decide_eq_true_eq, decide_eq_false_iff_not] at p1 p2 p3 p4 p5 p6; omega)
    | (go_enter Tryd.func59, Tryd.ntmps59
       go_wp2_with fail
       go_ret
       refine ⟨?_, rfl⟩
       rw [HZ.out]
       have hp := HP.out
       simp only [decide_eq_true_eq, decide_eq_false_iff_not] at hp
       repeat (first | rfl | (exfalso; omega) | split))
theorem cut_upto (t : List UInt8) (k : Nat) : (⟨t.toArray⟩ : ByteArray).extract 0 k = ⟨(t.take k).toArray⟩ := by
  apply ByteArray.ext
  apply Array.ext'
  simp [ByteArray.data_extract]
theorem str_eq (a b : ByteArray) : (a.toList == b.toList) = decide (a = b) := by
  rw [ByteArray.toList_eq, ByteArray.toList_eq]
  by_cases h : a = b
  · subst h; simp
  · have : a.data.toList ≠ b.data.toList := fun e => h (ByteArray.ext (Array.toList_inj.1 e))
    rw [decide_eq_false h]
    exact beq_eq_false_iff_ne.2 this
theorem numR_zero (t : List UInt8) (h : (numR t).2.2 ≠ 0) : (numR t).1 = 0 := by
  unfold numR at h ⊢
  by_cases hne : t = []
  · rw [if_pos hne]
  rw [if_neg hne] at h ⊢
  simp only at h ⊢
  by_cases h1 : 16 ≤ byteN t 0 ∧ byteN t 0 < 240
  · rw [if_pos h1] at h; exact absurd rfl h
  rw [if_neg h1] at h ⊢
  by_cases h2 : byteN t 0 < 8 ∨ 247 < byteN t 0
  · rw [if_pos h2]
  rw [if_neg h2] at h ⊢
  generalize (if byteN t 0 < 16 then 16 - byteN t 0 else byteN t 0 - 239) = K at *
  by_cases h3 : t.length ≤ K
  · rw [if_pos h3]
  rw [if_neg h3] at h ⊢
  generalize decide (byteN t 0 < 16) = fl at *
  by_cases h4 : 1 < K ∧ flipN fl (byteN t 1) = 0
  · rw [if_pos h4]
  rw [if_neg h4] at h ⊢
  by_cases h5 : accN fl t K ≤ 9223372036854775695
  · rw [if_pos h5] at h
    by_cases h6 : byteN t 0 < 16
    · rw [if_pos h6] at h; exact absurd rfl h
    · rw [if_neg h6] at h; exact absurd rfl h
  · rw [if_neg h5]
set_option maxRecDepth 100000 in
set_option maxHeartbeats 8000000 in
theorem refread_pos (w : World) (t : List UInt8) (hne : t ≠ []) (hr : 240 ≤ byteN t 0 ∧ byteN t 0 ≤ 247) (ht : t.length ≤ 1125899906842624) :
    Calls Tryd.prog 54 #[.string ⟨t.toArray⟩] w fun e w' => e = .returned (.tuple #[.int .i64 (numR t).1, .int .i64 (numR t).2.1, .int .i64 (numR t).2.2]) ∧ Below w.heap.size w w' := by
  have hlen : 0 < t.length := List.length_pos_iff.2 hne
  have q0 : t.isEmpty = false := by
    cases t with
    | nil => exact absurd rfl hne
    | cons _ _ => rfl
  have hz0 := byteN_get t 0 (by show 0 < t.toArray.size; simp; omega)
  obtain ⟨k, hk⟩ : ∃ k, byteN t 0 - 239 = k := ⟨_, rfl⟩
  have hk1 : 1 ≤ k ∧ k ≤ 8 := by omega
  have HNR : Hid (numR t = if t.length ≤ k then (0, 0, 2) else if 1 < k ∧ flipN false (byteN t 1) = 0 then (0, 0, 3) else if accN false t k ≤ 9223372036854775695 then ((accN false t k : Int) + 112, (k : Int) + 1, 0) else (0, 0, 3)) := by
    show _ = _
    unfold numR
    rw [if_neg hne]
    simp only
    rw [if_neg (by omega), if_neg (by omega)]
    rw [if_neg (show ¬ byteN t 0 < 16 by omega), if_neg (show ¬ byteN t 0 < 16 by omega), show decide (byteN t 0 < 16) = false by simp; omega]
    rw [hk]
  have HTK : Hid (k < t.length → (strOfNums ((239 + ((placesB false (accN false t k)).length : Int)) :: placesB false (accN false t k)) = ⟨(t.take (k + 1)).toArray⟩ ↔ ¬ (1 < k ∧ flipN false (byteN t 1) = 0))) := fun h =>
    num_take (fl := false) (hd := fun k => 239 + (k : Int)) hk1.1 hk1.2 h (by show (byteN t 0 : Int) = 239 + (k : Int); omega) (fun j _ _ h => by have h : 239 + (j : Int) = 239 + (k : Int) := h; omega) (fun j _ _ => by show 0 ≤ 239 + (j : Int) ∧ 239 + (j : Int) < 256; omega)
  have HLG := Lib.hid (fun w => long_any w (byteN t 0) (byteN_in t 0))
  have hlz : longZ (byteN t 0) = (k : Int) := by unfold longZ; rw [if_pos (by omega)]; omega
  rw [hlz] at HLG
  obtain ⟨H, hH⟩ : ∃ H : Int, (byteN t 0 : Int) = H := ⟨_, rfl⟩
  rw [hH] at hz0 HLG
  have hK : H - 239 = (k : Int) := by omega
  have hH2 : 240 ≤ H ∧ H ≤ 247 := by omega
  clear hH hr hk hne hlz
  obtain ⟨hHa, hHb⟩ := hH2
  obtain ⟨hk1, hk8⟩ := hk1
  have p4 : decide (H < 16) = false := by simp; omega
  have g0 : ((k : Int) == 0) = false := by simp; omega
  have g01 : (k == 0) = false := by simp; omega
  by_cases hs : t.length ≤ k
  · have g1 : decide ((t.length : Int) < (k : Int) + 1) = true := by simp; omega
    have g2 : decide (t.length < k + 1) = true := by simp; omega
    rw [HNR.out, if_pos hs]
    go_enter Tryd.func54, Tryd.ntmps54
    go_wp2_with fail
    refine (HLG.out _).mono ?_
    rintro e w1 ⟨rfl, rfl⟩
    go_wp2_with fail
    go_ret3
    exact ⟨rfl, brefl _⟩
  have g1 : decide ((t.length : Int) < (k : Int) + 1) = false := by simp; omega
  have g2 : decide (t.length < k + 1) = false := by simp; omega
  have HT : Hid (numR t = if 1 < k ∧ flipN false (byteN t 1) = 0 then (0, 0, 3) else if accN false t k ≤ 9223372036854775695 then ((accN false t k : Int) + 112, (k : Int) + 1, 0) else (0, 0, 3)) := by
    show _ = _
    rw [HNR.out, if_neg hs]
  clear HNR
  go_enter Tryd.func54, Tryd.ntmps54
  go_wp2_with fail
  refine (HLG.out _).mono ?_
  rintro e w1 ⟨rfl, rfl⟩
  go_wp2_with fail
  clear q0 hK g1 g2
  go_loopw [6, 7] (fun xv iv wr => ∃ i : Nat, i ≤ k ∧ iv = .int .i64 ((i : Int) + 1) ∧ xv = .int .u64 (accN false t i : Nat) ∧ wr = w1) (fun _ iv _ => k + 1 - (intOf iv).toNat)
  case atStart => exact ⟨0, Nat.zero_le _, rfl, rfl, rfl⟩
  case round =>
    obtain ⟨i, hi, rfl, rfl, rfl⟩ := hrel
    by_cases hlt : i < k
    · have g1 : decide ((i : Int) + 1 ≤ (k : Int)) = true := by simp; omega
      have hz := byteN_get t (i + 1) (by show i + 1 < t.toArray.size; simp; omega)
      have hbi := byteN_in t (i + 1)
      have hacc := accN_in false t i
      have hpow : 256 ^ i ≤ 256 ^ 7 := Nat.pow_le_pow_right (by omega) (by omega)
      have hsx : ((accN false t (i + 1) : Nat) : Int) = 256 * ((accN false t i : Nat) : Int) + (byteN t (i + 1) : Int) := by
        have e : accN false t (i + 1) = accN false t i * 256 + byteN t (i + 1) := rfl
        rw [e]
        omega
      have i0 : (0 : Int) ≤ (i : Int) + 1 := by omega
      have i1 : (i : Int) + 1 < (t.length : Int) := by omega
      go_wp2_with fail
      go_roundw
      case rel => exact ⟨i + 1, by omega, by go_num, by rw [hsx], by first | rfl | trivial⟩
      case measure => simp [intOf]; omega
    · obtain rfl : i = k := by omega
      have g1 : decide ((i : Int) + 1 ≤ (i : Int)) = false := decide_eq_false (by omega)
      have hacc := accN_in false t i
      have hpow : 256 ^ i ≤ 256 ^ 8 := Nat.pow_le_pow_right (by omega) (by omega)
      have HTK2 := Lib.hid (HTK.out (by omega))
      clear HTK
      obtain ⟨X, hX⟩ : ∃ X : Int, ((accN false t i : Nat) : Int) = X := ⟨_, rfl⟩
      have hX0 : 0 ≤ X := by omega
      by_cases hbig : accN false t i ≤ 9223372036854775695
      · have hX1 : X ≤ 9223372036854775695 := by omega
        have hc : decide (X > 9223372036854775695) = false := decide_eq_false (by omega)
        have HN := Lib.hid (fun w => refnum_any (X + 112) (by omega) (by omega) w)
        have hA : numA (X + 112) = (239 + ((placesB false (accN false t i)).length : Int)) :: placesB false (accN false t i) := by
          have e : (X + 112 - 112).toNat = accN false t i := by omega
          unfold numA
          rw [if_neg (by omega), if_pos (by omega), e]
        rw [hA] at HN
        have HT3 : Hid (numR t = if 1 < i ∧ flipN false (byteN t 1) = 0 then (0, 0, 3) else (X + 112, (i : Int) + 1, 0)) := by
          show _ = _
          rw [HT.out, if_pos hbig, hX]
        generalize strOfNums ((239 + ((placesB false (accN false t i)).length : Int)) :: placesB false (accN false t i)) = U at *
        rw [hX]
        clear hA hX hacc hpow hbig HT
        go_wp2_with fail
        have hcut := cut_upto t (i + 1)
        have hw1 : IntKind.i64.wrap ((i : Int) + 1) = (i : Int) + 1 := IntWalk.i64_in _ (by omega)
        have hw2 : ((i : Int) + 1).toNat = i + 1 := by omega
        have i0 : (0 : Int) ≤ (i : Int) + 1 := by omega
        have i1 : (i : Int) + 1 ≤ (t.length : Int) := by omega
        obtain ⟨V, hV⟩ : ∃ V, (⟨(t.take (i + 1)).toArray⟩ : ByteArray) = V := ⟨_, rfl⟩
        rw [hV] at hcut HTK2
        have hsame := str_eq U V
        by_cases hUV : U = V
        · rw [decide_eq_true hUV] at hsame
          have HT4 : Hid (numR t = (X + 112, (i : Int) + 1, 0)) := by
            show _ = _
            rw [HT3.out, if_neg (HTK2.out.1 hUV)]
          subst hUV
          clear HTK2 HT3 hV
          go_region_held3 (fun _ => True) (trivial) (first | (go_at_call 32; refine (HN.out _).mono ?_; rintro e wC ⟨rfl, hbC⟩; have HBC : Hid (Below wr.heap.size wr wC) := bcall (by repeat (first | exact brefl _ | refine Below.drew ?_)) hbC))
          all_goals
            go_wp2_with fail
            go_ret3
            exact ⟨by rw [HT4.out]; rfl, HBC.out⟩
        · rw [decide_eq_false hUV] at hsame
          have HT4 : Hid (numR t = (0, 0, 3)) := by
            show _ = _
            rw [HT3.out, if_pos (Classical.not_not.1 fun h => hUV (HTK2.out.2 h))]
          clear HTK2 HT3 hV
          go_region_held3 (fun _ => True) (trivial) (first | (go_at_call 32; refine (HN.out _).mono ?_; rintro e wC ⟨rfl, hbC⟩; have HBC : Hid (Below wr.heap.size wr wC) := bcall (by repeat (first | exact brefl _ | refine Below.drew ?_)) hbC))
          all_goals
            go_wp2_with fail
            go_ret3
            exact ⟨by rw [HT4.out]; rfl, HBC.out⟩
      · have hc : decide (X > 9223372036854775695) = true := decide_eq_true (by omega)
        have hR : numR t = (0, 0, 3) := by
          rw [HT.out, if_neg hbig]
          split <;> rfl
        have HR := Lib.hid hR
        rw [hX]
        clear hR hX hacc hpow HT
        go_wp2_with fail
        go_ret3
        exact ⟨by rw [HR.out]; rfl, brefl _⟩
set_option maxRecDepth 100000 in
set_option maxHeartbeats 8000000 in
theorem refread_neg (w : World) (t : List UInt8) (hne : t ≠ []) (hr : 8 ≤ byteN t 0 ∧ byteN t 0 < 16) (ht : t.length ≤ 1125899906842624) :
    Calls Tryd.prog 54 #[.string ⟨t.toArray⟩] w fun e w' => e = .returned (.tuple #[.int .i64 (numR t).1, .int .i64 (numR t).2.1, .int .i64 (numR t).2.2]) ∧ Below w.heap.size w w' := by
  have hlen : 0 < t.length := List.length_pos_iff.2 hne
  have q0 : t.isEmpty = false := by
    cases t with
    | nil => exact absurd rfl hne
    | cons _ _ => rfl
  have hz0 := byteN_get t 0 (by show 0 < t.toArray.size; simp; omega)
  obtain ⟨k, hk⟩ : ∃ k, 16 - byteN t 0 = k := ⟨_, rfl⟩
  have hk1 : 1 ≤ k ∧ k ≤ 8 := by omega
  have HNR : Hid (numR t = if t.length ≤ k then (0, 0, 2) else if 1 < k ∧ flipN true (byteN t 1) = 0 then (0, 0, 3) else if accN true t k ≤ 9223372036854775695 then (-113 - (accN true t k : Int), (k : Int) + 1, 0) else (0, 0, 3)) := by
    show _ = _
    unfold numR
    rw [if_neg hne]
    simp only
    rw [if_neg (by omega), if_neg (by omega)]
    rw [if_pos (show byteN t 0 < 16 by omega), if_pos (show byteN t 0 < 16 by omega), show decide (byteN t 0 < 16) = true by simp; omega]
    rw [hk]
  have HTK : Hid (k < t.length → (strOfNums ((16 - ((placesB true (accN true t k)).length : Int)) :: placesB true (accN true t k)) = ⟨(t.take (k + 1)).toArray⟩ ↔ ¬ (1 < k ∧ flipN true (byteN t 1) = 0))) := fun h =>
    num_take (fl := true) (hd := fun k => 16 - (k : Int)) hk1.1 hk1.2 h (by show (byteN t 0 : Int) = 16 - (k : Int); omega) (fun j _ _ h => by have h : 16 - (j : Int) = 16 - (k : Int) := h; omega) (fun j _ _ => by show 0 ≤ 16 - (j : Int) ∧ 16 - (j : Int) < 256; omega)
  have HLG := Lib.hid (fun w => long_any w (byteN t 0) (byteN_in t 0))
  have hlz : longZ (byteN t 0) = (k : Int) := by unfold longZ; rw [if_neg (by omega), if_pos (by omega)]; omega
  rw [hlz] at HLG
  obtain ⟨H, hH⟩ : ∃ H : Int, (byteN t 0 : Int) = H := ⟨_, rfl⟩
  rw [hH] at hz0 HLG
  have hH2 : 8 ≤ H ∧ H < 16 := by omega
  clear hH hr hk hne hlz
  obtain ⟨hHa, hHb⟩ := hH2
  obtain ⟨hk1, hk8⟩ := hk1
  have p4 : decide (H < 16) = true := by simp; omega
  have g0 : ((k : Int) == 0) = false := by simp; omega
  have g01 : (k == 0) = false := by simp; omega
  by_cases hs : t.length ≤ k
  · have g1 : decide ((t.length : Int) < (k : Int) + 1) = true := by simp; omega
    have g2 : decide (t.length < k + 1) = true := by simp; omega
    rw [HNR.out, if_pos hs]
    go_enter Tryd.func54, Tryd.ntmps54
    go_wp2_with fail
    refine (HLG.out _).mono ?_
    rintro e w1 ⟨rfl, rfl⟩
    go_wp2_with fail
    go_ret3
    exact ⟨rfl, brefl _⟩
  have g1 : decide ((t.length : Int) < (k : Int) + 1) = false := by simp; omega
  have g2 : decide (t.length < k + 1) = false := by simp; omega
  have HT : Hid (numR t = if 1 < k ∧ flipN true (byteN t 1) = 0 then (0, 0, 3) else if accN true t k ≤ 9223372036854775695 then (-113 - (accN true t k : Int), (k : Int) + 1, 0) else (0, 0, 3)) := by
    show _ = _
    rw [HNR.out, if_neg hs]
  clear HNR
  go_enter Tryd.func54, Tryd.ntmps54
  go_wp2_with fail
  refine (HLG.out _).mono ?_
  rintro e w1 ⟨rfl, rfl⟩
  go_wp2_with fail
  clear q0 g1 g2
  go_loopw [6, 7] (fun xv iv wr => ∃ i : Nat, i ≤ k ∧ iv = .int .i64 ((i : Int) + 1) ∧ xv = .int .u64 (accN true t i : Nat) ∧ wr = w1) (fun _ iv _ => k + 1 - (intOf iv).toNat)
  case atStart => exact ⟨0, Nat.zero_le _, rfl, rfl, rfl⟩
  case round =>
    obtain ⟨i, hi, rfl, rfl, rfl⟩ := hrel
    by_cases hlt : i < k
    · have g1 : decide ((i : Int) + 1 ≤ (k : Int)) = true := by simp; omega
      have hz := byteN_get t (i + 1) (by show i + 1 < t.toArray.size; simp; omega)
      have hbi := byteN_in t (i + 1)
      have hacc := accN_in true t i
      have hpow : 256 ^ i ≤ 256 ^ 7 := Nat.pow_le_pow_right (by omega) (by omega)
      have hsx : ((accN true t (i + 1) : Nat) : Int) = 256 * ((accN true t i : Nat) : Int) + (255 - (byteN t (i + 1) : Int)) := by
        have e : accN true t (i + 1) = accN true t i * 256 + (255 - byteN t (i + 1)) := rfl
        rw [e]
        omega
      have i0 : (0 : Int) ≤ (i : Int) + 1 := by omega
      have i1 : (i : Int) + 1 < (t.length : Int) := by omega
      go_wp2_with fail
      go_roundw
      case rel => exact ⟨i + 1, by omega, by go_num, by rw [hsx], by first | rfl | trivial⟩
      case measure => simp [intOf]; omega
    · obtain rfl : i = k := by omega
      have g1 : decide ((i : Int) + 1 ≤ (i : Int)) = false := decide_eq_false (by omega)
      have hacc := accN_in true t i
      have hpow : 256 ^ i ≤ 256 ^ 8 := Nat.pow_le_pow_right (by omega) (by omega)
      have HTK2 := Lib.hid (HTK.out (by omega))
      clear HTK
      obtain ⟨X, hX⟩ : ∃ X : Int, ((accN true t i : Nat) : Int) = X := ⟨_, rfl⟩
      have hX0 : 0 ≤ X := by omega
      by_cases hbig : accN true t i ≤ 9223372036854775695
      · have hX1 : X ≤ 9223372036854775695 := by omega
        have hc : decide (X > 9223372036854775695) = false := decide_eq_false (by omega)
        have HN := Lib.hid (fun w => refnum_any (-113 - X) (by omega) (by omega) w)
        have hA : numA (-113 - X) = (16 - ((placesB true (accN true t i)).length : Int)) :: placesB true (accN true t i) := by
          have e : (-(-113 - X + 113)).toNat = accN true t i := by omega
          unfold numA
          rw [if_neg (by omega), if_neg (by omega), e]
        rw [hA] at HN
        have HT3 : Hid (numR t = if 1 < i ∧ flipN true (byteN t 1) = 0 then (0, 0, 3) else (-113 - X, (i : Int) + 1, 0)) := by
          show _ = _
          rw [HT.out, if_pos hbig, hX]
        generalize strOfNums ((16 - ((placesB true (accN true t i)).length : Int)) :: placesB true (accN true t i)) = U at *
        rw [hX]
        clear hA hX hacc hpow hbig HT
        go_wp2_with fail
        have hcut := cut_upto t (i + 1)
        have hw1 : IntKind.i64.wrap ((i : Int) + 1) = (i : Int) + 1 := IntWalk.i64_in _ (by omega)
        have hw2 : ((i : Int) + 1).toNat = i + 1 := by omega
        have i0 : (0 : Int) ≤ (i : Int) + 1 := by omega
        have i1 : (i : Int) + 1 ≤ (t.length : Int) := by omega
        obtain ⟨V, hV⟩ : ∃ V, (⟨(t.take (i + 1)).toArray⟩ : ByteArray) = V := ⟨_, rfl⟩
        rw [hV] at hcut HTK2
        have hsame := str_eq U V
        by_cases hUV : U = V
        · rw [decide_eq_true hUV] at hsame
          have HT4 : Hid (numR t = (-113 - X, (i : Int) + 1, 0)) := by
            show _ = _
            rw [HT3.out, if_neg (HTK2.out.1 hUV)]
          subst hUV
          clear HTK2 HT3 hV
          go_region_held3 (fun _ => True) (trivial) (first | (go_at_call 32; refine (HN.out _).mono ?_; rintro e wC ⟨rfl, hbC⟩; have HBC : Hid (Below wr.heap.size wr wC) := bcall (by repeat (first | exact brefl _ | refine Below.drew ?_)) hbC))
          all_goals
            go_wp2_with fail
            go_ret3
            exact ⟨by rw [HT4.out]; rfl, HBC.out⟩
        · rw [decide_eq_false hUV] at hsame
          have HT4 : Hid (numR t = (0, 0, 3)) := by
            show _ = _
            rw [HT3.out, if_pos (Classical.not_not.1 fun h => hUV (HTK2.out.2 h))]
          clear HTK2 HT3 hV
          go_region_held3 (fun _ => True) (trivial) (first | (go_at_call 32; refine (HN.out _).mono ?_; rintro e wC ⟨rfl, hbC⟩; have HBC : Hid (Below wr.heap.size wr wC) := bcall (by repeat (first | exact brefl _ | refine Below.drew ?_)) hbC))
          all_goals
            go_wp2_with fail
            go_ret3
            exact ⟨by rw [HT4.out]; rfl, HBC.out⟩
      · have hc : decide (X > 9223372036854775695) = true := decide_eq_true (by omega)
        have hR : numR t = (0, 0, 3) := by
          rw [HT.out, if_neg hbig]
          split <;> rfl
        have HR := Lib.hid hR
        rw [hX]
        clear hR hX hacc hpow HT
        go_wp2_with fail
        go_ret3
        exact ⟨by rw [HR.out]; rfl, brefl _⟩
set_option maxRecDepth 100000 in
set_option maxHeartbeats 8000000 in
/-- glossref01.ReadNum at all bytes. -/
theorem refread_any (w : World) (t : List UInt8) (ht : t.length ≤ 1125899906842624) :
    Calls Tryd.prog 54 #[.string ⟨t.toArray⟩] w fun e w' => e = .returned (.tuple #[.int .i64 (numR t).1, .int .i64 (numR t).2.1, .int .i64 (numR t).2.2]) ∧ Below w.heap.size w w' := by
  by_cases hne : t = []
  · subst hne
    have hr : numR [] = (0, 0, 2) := rfl
    rw [hr]
    go_enter Tryd.func54, Tryd.ntmps54
    go_wp2_with fail
    go_ret3
    exact ⟨rfl, brefl w⟩
  have hb := byteN_in t 0
  by_cases h1 : 8 ≤ byteN t 0 ∧ byteN t 0 < 16
  · exact refread_neg w t hne h1 ht
  by_cases h2 : 240 ≤ byteN t 0 ∧ byteN t 0 ≤ 247
  · exact refread_pos w t hne h2 ht
  have hlen : 0 < t.length := List.length_pos_iff.2 hne
  have q0 : t.isEmpty = false := by
    cases t with
    | nil => exact absurd rfl hne
    | cons _ _ => rfl
  have hz0 := byteN_get t 0 (by show 0 < t.toArray.size; simp; omega)
  have HLG := Lib.hid (fun w => long_any w (byteN t 0) (byteN_in t 0))
  by_cases h3 : 16 ≤ byteN t 0 ∧ byteN t 0 < 240
  · have hr : Hid (numR t = ((byteN t 0 : Int) - 128, 1, 0)) := by
      show _ = _
      unfold numR
      rw [if_neg hne]
      simp only
      rw [if_pos h3]
    have hlz : longZ (byteN t 0) = 0 := by unfold longZ; rw [if_neg (by omega), if_neg (by omega), if_pos h3]
    rw [hlz] at HLG
    obtain ⟨H, hH⟩ : ∃ H : Int, (byteN t 0 : Int) = H := ⟨_, rfl⟩
    rw [hH] at hz0 hr HLG
    have hH2 : 16 ≤ H ∧ H < 240 := by omega
    obtain ⟨hHa, hHb⟩ := hH2
    have hw1 : IntKind.i64.wrap H = H := IntWalk.i64_in _ (by omega)
    clear h1 h2 h3 hH hb hne hlz
    go_enter Tryd.func54, Tryd.ntmps54
    go_wp2_with fail
    refine (HLG.out _).mono ?_
    rintro e w1 ⟨rfl, rfl⟩
    go_wp2_with fail
    go_ret3
    exact ⟨by rw [hr.out]; rfl, brefl _⟩
  · have hr : Hid (numR t = (0, 0, 3)) := by
      show _ = _
      unfold numR
      rw [if_neg hne]
      simp only
      rw [if_neg h3, if_pos (by omega)]
    have hlz : longZ (byteN t 0) = -1 := by unfold longZ; rw [if_neg (by omega), if_neg (by omega), if_neg h3]
    rw [hlz] at HLG
    obtain ⟨H, hH⟩ : ∃ H : Int, (byteN t 0 : Int) = H := ⟨_, rfl⟩
    rw [hH] at hz0 HLG
    have hHa : 0 ≤ H ∧ H < 256 := by omega
    obtain ⟨hHa, hHb⟩ := hHa
    clear h1 h2 h3 hH hb hne hlz
    go_enter Tryd.func54, Tryd.ntmps54
    go_wp2_with fail
    refine (HLG.out _).mono ?_
    rintro e w1 ⟨rfl, rfl⟩
    go_wp2_with fail
    go_ret3
    exact ⟨by rw [hr.out]; rfl, brefl _⟩
set_option maxRecDepth 100000 in
set_option maxHeartbeats 8000000 in
/-- glossref01.ReadCount at all bytes: the number, how many bytes, the error. -/
theorem refcnt_any (w : World) (t : List UInt8) (ht : t.length ≤ 1125899906842624) :
    Calls Tryd.prog 46 #[.string ⟨t.toArray⟩] w fun e w' => (∃ k : Int, e = .returned (.tuple #[.int .i64 (readCnt t).1, .int .i64 k, .int .i64 (readCnt t).2.1]) ∧ ((readCnt t).2.1 = 0 → 0 ≤ k ∧ k ≤ t.length ∧ (readCnt t).2.2 = t.drop k.toNat)) ∧ Below w.heap.size w w' := by
  have HN := Lib.hid (refread_any w t ht)
  have HK := Lib.hid (numR_k t)
  by_cases he : (numR t).2.2 = 0
  · obtain ⟨k, hk, k1, k2⟩ := numR_k t he
    have hR : readNum t = ((numR t).1, 0, t.drop (numR t).2.1.toNat) := if_pos he
    rw [he, hk] at HN
    rw [hk, Int.toNat_natCast] at hR
    by_cases hn : (numR t).1 < 0
    · have hC : readCnt t = (0, 3, t) := if_pos (by rw [hR]; exact ⟨rfl, hn⟩)
      rw [hC]
      have p1 : decide ((numR t).1 < 0) = true := by simpa using hn
      generalize (numR t).1 = z at *
      clear he hk hR hC HK
      go_enter Tryd.func46, Tryd.ntmps46
      go_wp2_with fail
      refine HN.out.mono ?_
      rintro e w1 ⟨rfl, hb1⟩
      go_wp2_with fail
      go_ret3
      exact ⟨⟨0, rfl, fun h => by cases h⟩, hb1⟩
    · have hC : readCnt t = ((numR t).1, 0, t.drop k) := by
        unfold readCnt
        rw [if_neg (by rw [hR]; exact fun h => hn h.2), hR]
      rw [hC]
      have p1 : decide ((numR t).1 < 0) = false := by simpa using hn
      generalize (numR t).1 = z at *
      clear he hk hR hC HK
      go_enter Tryd.func46, Tryd.ntmps46
      go_wp2_with fail
      refine HN.out.mono ?_
      rintro e w1 ⟨rfl, hb1⟩
      go_wp2_with fail
      go_ret3
      exact ⟨⟨k, rfl, fun _ => ⟨by omega, by omega, by simp⟩⟩, hb1⟩
  · have hR : readNum t = (0, (numR t).2.2, t) := if_neg he
    have hC : readCnt t = (0, (numR t).2.2, t) := by
      unfold readCnt
      rw [if_neg (by rw [hR]; exact fun h => he h.1), hR]
    rw [hC]
    have hz : (numR t).1 = 0 := numR_zero t he
    rw [hz] at HN
    generalize (numR t).2.2 = err at *
    generalize (numR t).2.1 = kk at *
    have p1 : (err == 0) = false := by simpa using he
    have HE := Lib.hid he
    clear he hR hC hz HK
    go_enter Tryd.func46, Tryd.ntmps46
    go_wp2_with fail
    refine HN.out.mono ?_
    rintro e w1 ⟨rfl, hb1⟩
    go_wp2_with fail
    go_ret3
    exact ⟨⟨kk, rfl, fun h => absurd h HE.out⟩, hb1⟩
end Go.Proofs.YtheickndnniomaaDoor
