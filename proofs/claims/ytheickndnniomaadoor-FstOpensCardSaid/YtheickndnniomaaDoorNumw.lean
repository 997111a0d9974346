/- Package tuple: a number is read: the walk. -/
import Derived.Test.YtheickndnniomaaDoorNumr
namespace Go.Proofs.YtheickndnniomaaDoor
open Go.RowKit

set_option maxRecDepth 100000 in
set_option maxHeartbeats 8000000 in
theorem number_pos (w : World) (t : List UInt8) (hne : t ≠ []) (hr : 240 ≤ byteN t 0 ∧ byteN t 0 ≤ 247) (ht : t.length ≤ 1125899906842624) :
    Calls Tryd.prog 53 #[.string ⟨t.toArray⟩] w fun e w' => e = .returned (.tuple #[.int .i64 (numR t).1, .int .i64 (numR t).2.1, .int .i64 (numR t).2.2]) ∧ Below w.heap.size w w' := by
  have hlen : 0 < t.length := List.length_pos_iff.2 hne
  have q0 : t.isEmpty = false := by
    cases t with
    | nil => exact absurd rfl hne
    | cons _ _ => rfl
  have hz0 := byteN_get t 0 (by show 0 < t.toArray.size; simp; omega)
  obtain ⟨k, hk⟩ : ∃ k, byteN t 0 - 239 = k := ⟨_, rfl⟩
  have hk1 : 1 ≤ k ∧ k ≤ 8 := by omega
  have HNR : Hid (numR t = if t.length ≤ k then (0, 0, 2) else if 1 < k ∧ flipN false (byteN t 1) = 0 then (0, 0, 3) else if accN false t k ≤ 9223372036854775695 then ((accN false t k : Int) + 112, (k : Int) + 1, 0) else (0, 0, 3)) := by
    show _ = _
    unfold numR
    rw [if_neg hne]
    simp only
    rw [if_neg (by omega), if_neg (by omega)]
    rw [if_neg (show ¬ byteN t 0 < 16 by omega), if_neg (show ¬ byteN t 0 < 16 by omega), show decide (byteN t 0 < 16) = false by simp; omega]
    rw [hk]
  obtain ⟨H, hH⟩ : ∃ H : Int, (byteN t 0 : Int) = H := ⟨_, rfl⟩
  rw [hH] at hz0
  have hK : H - 239 = (k : Int) := by omega
  have hH2 : 240 ≤ H ∧ H ≤ 247 := by omega
  clear hH hr hk hne
  have hw1 : IntKind.i64.wrap H = H := IntWalk.i64_in _ (by omega)
  obtain ⟨hHa, hHb⟩ := hH2
  have p1 : decide (H ≥ 16) = true := by simp; omega
  have p1' : decide (H < 240) = false := by simp; omega
  have p2 : decide (H < 8) = false := by simp; omega
  have p3 : decide (H > 247) = false := by simp; omega
  have p4 : decide (H < 16) = false := by simp; omega
  by_cases hs : t.length ≤ k
  · have g1 : decide ((k : Int) ≥ (t.length : Int)) = true := by simp; omega
    have g2 : decide (t.length ≤ k) = true := by simpa using hs
    rw [HNR.out, if_pos hs]
    go_enter Tryd.func53, Tryd.ntmps53
    go_wp2_with fail
    go_ret3
    exact ⟨rfl, brefl w⟩
  have g1 : decide ((k : Int) ≥ (t.length : Int)) = false := by simp; omega
  have g2 : decide (t.length ≤ k) = false := by simpa using hs
  have HT : Hid (numR t = if 1 < k ∧ flipN false (byteN t 1) = 0 then (0, 0, 3) else if accN false t k ≤ 9223372036854775695 then ((accN false t k : Int) + 112, (k : Int) + 1, 0) else (0, 0, 3)) := by
    show _ = _
    rw [HNR.out, if_neg hs]
  clear HNR
  go_enter Tryd.func53, Tryd.ntmps53
  go_wp2_with fail
  clear q0 hz0 hK hw1 p1 p2 p3 p4 g1 g2 hHa hHb
  go_loopw [8, 9] (fun xv iv wr => ∃ i : Nat, i ≤ k ∧ iv = .int .i64 ((i : Int) + 1) ∧ xv = .int .u64 (accN false t i : Nat) ∧ wr = w) (fun _ iv _ => k + 1 - (intOf iv).toNat)
  case atStart => exact ⟨0, Nat.zero_le _, rfl, rfl, rfl⟩
  case round =>
    obtain ⟨i, hi, rfl, rfl, rfl⟩ := hrel
    by_cases hlt : i < k
    · have g1 : decide ((i : Int) + 1 ≤ (k : Int)) = true := by simp; omega
      have hz := byteN_get t (i + 1) (by show i + 1 < t.toArray.size; simp; omega)
      have hbi := byteN_in t (i + 1)
      have hx := xor_0 (z := (byteN t (i + 1) : Int)) (by omega) (by omega)
      have hacc := accN_in false t i
      have hpow : 256 ^ i ≤ 256 ^ 7 := Nat.pow_le_pow_right (by omega) (by omega)
      have hor : bits .or .u64 ((accN false t i : Int) * 256) ((byteN t (i + 1) : Int)) = ((accN false t (i + 1) : Nat) : Int) := by
        have h := or_u64 (a := accN false t i) (c := flipN false (byteN t (i + 1))) (by omega) (flipN_in _ hbi)
        have e : ((flipN false (byteN t (i + 1)) : Nat) : Int) = (byteN t (i + 1) : Int) := by
          unfold flipN
          simp
          try omega
        rw [e] at h
        rw [h]
        rfl
      have i0 : (0 : Int) ≤ (i : Int) + 1 := by omega
      have i1 : (i : Int) + 1 < (t.length : Int) := by omega
      go_wp2_with fail
      go_roundw
      case rel => exact ⟨i + 1, by omega, by go_num, by first | rfl | rw [hor], by first | rfl | trivial⟩
      case measure => simp [intOf]; omega
    · obtain rfl : i = k := by omega
      have g1 : decide ((i : Int) + 1 ≤ (i : Int)) = false := by simp; omega
      have hz := byteN_get t 1 (by show 1 < t.toArray.size; simp; omega)
      have hbi := byteN_in t 1
      have hx := xor_0 (z := (byteN t 1 : Int)) (by omega) (by omega)
      have hacc := accN_in false t i
      have hpow : 256 ^ i ≤ 256 ^ 8 := Nat.pow_le_pow_right (by omega) (by omega)
      have HTT := HT.out
      have j0 : (1 : Int) < (t.length : Int) := by omega
      generalize accN false t i = X at *
      by_cases c1 : 1 < i ∧ flipN false (byteN t 1) = 0
      · rw [if_pos c1] at HTT
        have k1 : decide ((i : Int) > 1) = true := by simp; omega
        have k2 : decide (i > 1) = true := by simp; omega
        have k3 : ((byteN t 1 : Int)) = 0 := by
          have := c1.2
          unfold flipN at this
          simp at this
          omega
        go_wp2_with fail
        all_goals
          go_ret3
          exact ⟨by first | (rw [HTT]; done) | (rw [HTT]; rfl), brefl _⟩
      rw [if_neg c1] at HTT
      have hcase : (decide ((i : Int) > 1) = false) ∨ (decide ((i : Int) > 1) = true ∧ (((byteN t 1 : Int)) == 0) = false) := by
        by_cases hi1 : 1 < i
        · refine .inr ⟨by simp; omega, ?_⟩
          have h2 : ¬ flipN false (byteN t 1) = 0 := fun e => c1 ⟨hi1, e⟩
          unfold flipN at h2
          simp at h2
          simp
          omega
        · exact .inl (by simp; omega)
      clear c1
      by_cases c2 : X ≤ 9223372036854775695
      · rw [if_pos c2] at HTT
        have k4 : decide ((X : Int) ≤ 9223372036854775695) = true := by simp; omega
        have k5 : decide (X ≤ 9223372036854775695) = true := by simpa using c2
        have w1 : IntKind.i64.wrap (X : Int) = (X : Int) := IntWalk.i64_in _ (by omega)
        rcases hcase with k1 | ⟨k1, k3⟩
        all_goals
          go_wp2_with fail
          all_goals
            go_ret3
            exact ⟨by first | (rw [HTT]; done) | (rw [HTT]; rfl), brefl _⟩
      · rw [if_neg c2] at HTT
        have k4 : decide ((X : Int) ≤ 9223372036854775695) = false := by simp; omega
        have k5 : decide (X ≤ 9223372036854775695) = false := by simpa using c2
        rcases hcase with k1 | ⟨k1, k3⟩
        all_goals
          go_wp2_with fail
          all_goals
            go_ret3
            exact ⟨by first | (rw [HTT]; done) | (rw [HTT]; rfl), brefl _⟩
set_option maxRecDepth 100000 in
set_option maxHeartbeats 8000000 in
theorem number_neg (w : World) (t : List UInt8) (hne : t ≠ []) (hr : 8 ≤ byteN t 0 ∧ byteN t 0 < 16) (ht : t.length ≤ 1125899906842624) :
    Calls Tryd.prog 53 #[.string ⟨t.toArray⟩] w fun e w' => e = .returned (.tuple #[.int .i64 (numR t).1, .int .i64 (numR t).2.1, .int .i64 (numR t).2.2]) ∧ Below w.heap.size w w' := by
  have hlen : 0 < t.length := List.length_pos_iff.2 hne
  have q0 : t.isEmpty = false := by
    cases t with
    | nil => exact absurd rfl hne
    | cons _ _ => rfl
  have hz0 := byteN_get t 0 (by show 0 < t.toArray.size; simp; omega)
  obtain ⟨k, hk⟩ : ∃ k, 16 - byteN t 0 = k := ⟨_, rfl⟩
  have hk1 : 1 ≤ k ∧ k ≤ 8 := by omega
  have HNR : Hid (numR t = if t.length ≤ k then (0, 0, 2) else if 1 < k ∧ flipN true (byteN t 1) = 0 then (0, 0, 3) else if accN true t k ≤ 9223372036854775695 then (-113 - (accN true t k : Int), (k : Int) + 1, 0) else (0, 0, 3)) := by
    show _ = _
    unfold numR
    rw [if_neg hne]
    simp only
    rw [if_neg (by omega), if_neg (by omega)]
    rw [if_pos (show byteN t 0 < 16 by omega), if_pos (show byteN t 0 < 16 by omega), show decide (byteN t 0 < 16) = true by simpa using hr.2]
    rw [hk]
  obtain ⟨H, hH⟩ : ∃ H : Int, (byteN t 0 : Int) = H := ⟨_, rfl⟩
  rw [hH] at hz0
  have hK : 16 - H = (k : Int) := by omega
  have hH2 : 8 ≤ H ∧ H < 16 := by omega
  clear hH hr hk hne
  have hw1 : IntKind.i64.wrap H = H := IntWalk.i64_in _ (by omega)
  obtain ⟨hHa, hHb⟩ := hH2
  have p1 : decide (H ≥ 16) = false := by simp; omega
  have p2 : decide (H < 8) = false := by simp; omega
  have p3 : decide (H > 247) = false := by simp; omega
  have p4 : decide (H < 16) = true := by simp; omega
  by_cases hs : t.length ≤ k
  · have g1 : decide ((k : Int) ≥ (t.length : Int)) = true := by simp; omega
    have g2 : decide (t.length ≤ k) = true := by simpa using hs
    rw [HNR.out, if_pos hs]
    go_enter Tryd.func53, Tryd.ntmps53
    go_wp2_with fail
    go_ret3
    exact ⟨rfl, brefl w⟩
  have g1 : decide ((k : Int) ≥ (t.length : Int)) = false := by simp; omega
  have g2 : decide (t.length ≤ k) = false := by simpa using hs
  have HT : Hid (numR t = if 1 < k ∧ flipN true (byteN t 1) = 0 then (0, 0, 3) else if accN true t k ≤ 9223372036854775695 then (-113 - (accN true t k : Int), (k : Int) + 1, 0) else (0, 0, 3)) := by
    show _ = _
    rw [HNR.out, if_neg hs]
  clear HNR
  go_enter Tryd.func53, Tryd.ntmps53
  go_wp2_with fail
  clear q0 hz0 hK hw1 p1 p2 p3 p4 g1 g2 hHa hHb
  go_loopw [8, 9] (fun xv iv wr => ∃ i : Nat, i ≤ k ∧ iv = .int .i64 ((i : Int) + 1) ∧ xv = .int .u64 (accN true t i : Nat) ∧ wr = w) (fun _ iv _ => k + 1 - (intOf iv).toNat)
  case atStart => exact ⟨0, Nat.zero_le _, rfl, rfl, rfl⟩
  case round =>
    obtain ⟨i, hi, rfl, rfl, rfl⟩ := hrel
    by_cases hlt : i < k
    · have g1 : decide ((i : Int) + 1 ≤ (k : Int)) = true := by simp; omega
      have hz := byteN_get t (i + 1) (by show i + 1 < t.toArray.size; simp; omega)
      have hbi := byteN_in t (i + 1)
      have hx := xor_255 (z := (byteN t (i + 1) : Int)) (by omega) (by omega)
      have hacc := accN_in true t i
      have hpow : 256 ^ i ≤ 256 ^ 7 := Nat.pow_le_pow_right (by omega) (by omega)
      have hor : bits .or .u64 ((accN true t i : Int) * 256) (255 - (byteN t (i + 1) : Int)) = ((accN true t (i + 1) : Nat) : Int) := by
        have h := or_u64 (a := accN true t i) (c := flipN true (byteN t (i + 1))) (by omega) (flipN_in _ hbi)
        have e : ((flipN true (byteN t (i + 1)) : Nat) : Int) = 255 - (byteN t (i + 1) : Int) := by
          unfold flipN
          simp
          try omega
        rw [e] at h
        rw [h]
        rfl
      have i0 : (0 : Int) ≤ (i : Int) + 1 := by omega
      have i1 : (i : Int) + 1 < (t.length : Int) := by omega
      go_wp2_with fail
      go_roundw
      case rel => exact ⟨i + 1, by omega, by go_num, by first | rfl | rw [hor], by first | rfl | trivial⟩
      case measure => simp [intOf]; omega
    · obtain rfl : i = k := by omega
      have g1 : decide ((i : Int) + 1 ≤ (i : Int)) = false := by simp; omega
      have hz := byteN_get t 1 (by show 1 < t.toArray.size; simp; omega)
      have hbi := byteN_in t 1
      have hx := xor_255 (z := (byteN t 1 : Int)) (by omega) (by omega)
      have hacc := accN_in true t i
      have hpow : 256 ^ i ≤ 256 ^ 8 := Nat.pow_le_pow_right (by omega) (by omega)
      have HTT := HT.out
      have j0 : (1 : Int) < (t.length : Int) := by omega
      generalize accN true t i = X at *
      by_cases c1 : 1 < i ∧ flipN true (byteN t 1) = 0
      · rw [if_pos c1] at HTT
        have k1 : decide ((i : Int) > 1) = true := by simp; omega
        have k2 : decide (i > 1) = true := by simp; omega
        have k3 : (255 - (byteN t 1 : Int)) = 0 := by
          have := c1.2
          unfold flipN at this
          simp at this
          omega
        go_wp2_with fail
        all_goals
          go_ret3
          exact ⟨by first | (rw [HTT]; done) | (rw [HTT]; rfl), brefl _⟩
      rw [if_neg c1] at HTT
      have hcase : (decide ((i : Int) > 1) = false) ∨ (decide ((i : Int) > 1) = true ∧ ((255 - (byteN t 1 : Int)) == 0) = false) := by
        by_cases hi1 : 1 < i
        · refine .inr ⟨by simp; omega, ?_⟩
          have h2 : ¬ flipN true (byteN t 1) = 0 := fun e => c1 ⟨hi1, e⟩
          unfold flipN at h2
          simp at h2
          simp
          omega
        · exact .inl (by simp; omega)
      clear c1
      by_cases c2 : X ≤ 9223372036854775695
      · rw [if_pos c2] at HTT
        have k4 : decide ((X : Int) ≤ 9223372036854775695) = true := by simp; omega
        have k5 : decide (X ≤ 9223372036854775695) = true := by simpa using c2
        have w1 : IntKind.i64.wrap (X : Int) = (X : Int) := IntWalk.i64_in _ (by omega)
        rcases hcase with k1 | ⟨k1, k3⟩
        all_goals
          go_wp2_with fail
          all_goals
            go_ret3
            exact ⟨by first | (rw [HTT]; done) | (rw [HTT]; rfl), brefl _⟩
      · rw [if_neg c2] at HTT
        have k4 : decide ((X : Int) ≤ 9223372036854775695) = false := by simp; omega
        have k5 : decide (X ≤ 9223372036854775695) = false := by simpa using c2
        rcases hcase with k1 | ⟨k1, k3⟩
        all_goals
          go_wp2_with fail
          all_goals
            go_ret3
            exact ⟨by first | (rw [HTT]; done) | (rw [HTT]; rfl), brefl _⟩
set_option maxRecDepth 100000 in
set_option maxHeartbeats 8000000 in
/-- tuple.number at all bytes. -/
theorem number_any (w : World) (t : List UInt8) (ht : t.length ≤ 1125899906842624) :
    Calls Tryd.prog 53 #[.string ⟨t.toArray⟩] w fun e w' => e = .returned (.tuple #[.int .i64 (numR t).1, .int .i64 (numR t).2.1, .int .i64 (numR t).2.2]) ∧ Below w.heap.size w w' := by
  by_cases hne : t = []
  · subst hne
    have hr : numR [] = (0, 0, 2) := rfl
    rw [hr]
    go_enter Tryd.func53, Tryd.ntmps53
    go_wp2_with fail
    go_ret3
    exact ⟨rfl, brefl w⟩
  have hb := byteN_in t 0
  by_cases h1 : 8 ≤ byteN t 0 ∧ byteN t 0 < 16
  · exact number_neg w t hne h1 ht
  by_cases h2 : 240 ≤ byteN t 0 ∧ byteN t 0 ≤ 247
  · exact number_pos w t hne h2 ht
  have hlen : 0 < t.length := List.length_pos_iff.2 hne
  have q0 : t.isEmpty = false := by
    cases t with
    | nil => exact absurd rfl hne
    | cons _ _ => rfl
  have hz0 := byteN_get t 0 (by show 0 < t.toArray.size; simp; omega)
  by_cases h3 : 16 ≤ byteN t 0 ∧ byteN t 0 < 240
  · have hr : Hid (numR t = ((byteN t 0 : Int) - 128, 1, 0)) := by
      show _ = _
      unfold numR
      rw [if_neg hne]
      simp only
      rw [if_pos h3]
    obtain ⟨H, hH⟩ : ∃ H : Int, (byteN t 0 : Int) = H := ⟨_, rfl⟩
    rw [hH] at hz0 hr
    have hH2 : 16 ≤ H ∧ H < 240 := by omega
    obtain ⟨hHa, hHb⟩ := hH2
    have hw1 : IntKind.i64.wrap H = H := IntWalk.i64_in _ (by omega)
    have p1 : decide (H ≥ 16) = true := by simp; omega
    have p2 : decide (H < 240) = true := by simp; omega
    clear h1 h2 h3 hH hb hne
    go_enter Tryd.func53, Tryd.ntmps53
    go_wp2_with fail
    go_ret3
    exact ⟨by rw [hr.out]; rfl, brefl w⟩
  · have hr : Hid (numR t = (0, 0, 3)) := by
      show _ = _
      unfold numR
      rw [if_neg hne]
      simp only
      rw [if_neg h3, if_pos (by omega)]
    have hcase : (byteN t 0 < 8) ∨ (247 < byteN t 0) := by omega
    obtain ⟨H, hH⟩ : ∃ H : Int, (byteN t 0 : Int) = H := ⟨_, rfl⟩
    rw [hH] at hz0
    have hH2 : (H < 8 ∧ 0 ≤ H) ∨ (247 < H ∧ H < 256) := by omega
    clear h1 h2 h3 hH hb hne hcase
    rcases hH2 with ⟨hHa, hHb⟩ | ⟨hHa, hHb⟩
    · have hw1 : IntKind.i64.wrap H = H := IntWalk.i64_in _ (by omega)
      have p1 : decide (H ≥ 16) = false := by simp; omega
      have p2 : decide (H < 8) = true := by simp; omega
      go_enter Tryd.func53, Tryd.ntmps53
      go_wp2_with fail
      go_ret3
      exact ⟨by rw [hr.out]; rfl, brefl w⟩
    · have hw1 : IntKind.i64.wrap H = H := IntWalk.i64_in _ (by omega)
      have p1 : decide (H ≥ 16) = true := by simp; omega
      have p1' : decide (H < 240) = false := by simp; omega
      have p2 : decide (H < 8) = false := by simp; omega
      have p3 : decide (H > 247) = true := by simp; omega
      go_enter Tryd.func53, Tryd.ntmps53
      go_wp2_with fail
      go_ret3
      exact ⟨by rw [hr.out]; rfl, brefl w⟩
end Go.Proofs.YtheickndnniomaaDoor
