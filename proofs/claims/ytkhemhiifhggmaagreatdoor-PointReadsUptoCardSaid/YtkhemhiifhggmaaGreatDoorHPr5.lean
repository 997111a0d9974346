/- The reference's form of a number (glossref01.places). -/
import Derived.Test.YtkhemhiifhggmaaGreatDoorHPr4
import Derived.Test.YtkhemhiifhggmaaGreatDoorHPr1
import Derived.Test.YtkhemhiifhggmaaGreatDoorProg
set_option maxRecDepth 100000
set_option maxHeartbeats 40000000
namespace Go.Proofs.YtkhemhiifhggmaaGreatDoor
open Go.RowKit
def flipZ (fl : Bool) (z : Int) : Int := if fl then 255 - z else z
def placesB (fl : Bool) (x : Nat) : List Int := (places x).map (flipZ fl)
theorem placesB_eq (fl : Bool) (x : Nat) : placesB fl x = if x < 256 then [flipZ fl ((x % 256 : Nat) : Int)] else placesB fl (x / 256) ++ [flipZ fl ((x % 256 : Nat) : Int)] := by
 unfold placesB
 rw [places_eq]
 split
 ·rfl
 ·rw [List.map_append]
  rfl
theorem conv_one (w : World) (z : Int) : (convert 66 9 (.slice (some ⟨w.heap.size, 0, none⟩) 1 1)).run Tryz.prog (w.alloc (.cells #[.int .u8 z] 5)) = .ok (.string (strOfNums [z])) (w.alloc (.cells #[.int .u8 z] 5)) := by
 have h : (w.alloc (.cells #[.int .u8 z] 5)).ownsRow 0 5 1 (.slice (some ⟨w.heap.size, 0, none⟩) 1 1) 1 ([z].map (.int .u8)) := own_new w #[.int .u8 z] 5 1 1 rfl (by unfold maxLen; omega) rfl (Nat.zero_le _)
 exact convert_own (P := Tryz.prog) Tryz.underlying66 Tryz.underlying5 (dst := 9) Tryz.underlying9 h
theorem strcat (a b : List Int) (h : a.length + b.length ≤ 4611686018427387904) (w : World) : (Op.stringOp .add (strOfNums a) (strOfNums b)).run Tryz.prog w = .ok (.string (strOfNums (a ++ b))) w := by
 have e : strOfNums a ++ strOfNums b = strOfNums (a ++ b) := by
  apply ByteArray.ext
  simp [strOfNums]
 rw [← e]
 exact run_string_add_sum w _ _ (by rw [strOfNums_size, strOfNums_size]; omega)
theorem placesB_len (fl : Bool) : ∀ (n x : Nat), x < 256 ^ n → (placesB fl x).length ≤ n + 1
 |
  0, x, h => by
  rw [placesB_eq, if_pos (by simp at h; omega)]
  simp
 |
  n + 1, x, h => by
  rw [placesB_eq]
  split
  ·simp
  ·have := placesB_len fl n (x / 256) (by rw [Nat.pow_succ] at h; omega)
   rw [List.length_append, List.length_singleton]
   omega
theorem places_pos : ∀ (n x : Nat), x < 256 ^ n → n ≤ 8 → ∀ w : World, Calls Tryz.prog 70 #[.int .u64 x, .int .i64 0] w fun e w' => e = .returned (.string (strOfNums (placesB false x))) ∧ Below w.heap.size w w'
 |
  n, x, h, hn, w => by
  have hx64 : x < 18446744073709551616 := Nat.lt_of_lt_of_le h (Nat.le_trans (Nat.pow_le_pow_right (by omega) hn) (by decide))
  have hm : ((x : Nat) : Int).tmod 256 = ((x % 256 : Nat) : Int) := rfl
  have hm2 : ((x : Nat) : Int) % 256 = ((x % 256 : Nat) : Int) := rfl
  obtain ⟨Z, hZ⟩ : ∃ Z, flipZ false ((x % 256 : Nat) : Int) = Z := ⟨_, rfl⟩
  have hz1 : ((x % 256 : Nat) : Int) = Z := by rw [← hZ]; rfl
  have hZr : 0 ≤ Z ∧ Z < 256 := by omega
  have hw1 : Z % 256 = Z := by omega
  have hc := conv_one w Z
  have hpe := placesB_eq false x
  rw [hZ] at hpe
  by_cases hs : x < 256
  ·have q1 : decide ((x : Int) < 256) = true := by simp; omega
   have q2 : decide (x < 256) = true := by simpa using hs
   have HP : Hid (placesB false x = [Z]) := by
    show _ = _
    rw [hpe, if_pos hs]
   have HZ := Lib.hid hZ
   clear hpe hZ h
   generalize ((x % 256 : Nat) : Int) = C at *
   subst hz1
   go_enter Tryz.func70, Tryz.ntmps70
   go_wp2_with fail
   go_ret
   exact ⟨by rw [HP.out]; rfl, bnew (brefl w) _⟩
  ·match n, h, hn with
   | 0, h, _ => exact absurd h (by simp; omega)
   |
    n + 1, h, hn =>
    have q1 : decide ((x : Int) < 256) = false := by simp; omega
    have q2 : decide (x < 256) = false := by simpa using hs
    have hlt : x / 256 < 256 ^ n := by rw [Nat.pow_succ] at h; omega
    have HI := Lib.hid (places_pos n (x / 256) hlt (by omega))
    have hq : ((x : Nat) : Int).tdiv 256 = ((x / 256 : Nat) : Int) := rfl
    have hq2 : ((x : Nat) : Int) / 256 = ((x / 256 : Nat) : Int) := rfl
    have hl := placesB_len false n (x / 256) hlt
    have hcat := strcat (placesB false (x / 256)) [Z] (by simp; omega)
    have HP : Hid (strOfNums (placesB false (x / 256) ++ [Z]) = strOfNums (placesB false x)) := by
     show _ = _
     rw [hpe, if_neg hs]
    have HZ := Lib.hid hZ
    clear hpe hZ h hlt hl
    generalize strOfNums (placesB false (x / 256) ++ [Z]) = U at *
    generalize strOfNums (placesB false (x / 256)) = S at *
    generalize strOfNums [Z] = T at *
    generalize x / 256 = x2 at *
    generalize ((x % 256 : Nat) : Int) = C at *
    subst hz1
    go_enter Tryz.func70, Tryz.ntmps70
    go_wp2_with fail
    refine (HI.out _).mono ?_
    rintro e w1 ⟨rfl, hb1⟩
    go_wp2_with fail
    go_ret
    exact ⟨by rw [← HP.out]; rfl, bcall (bnew (brefl w) _) hb1⟩
theorem places_neg : ∀ (n x : Nat), x < 256 ^ n → n ≤ 8 → ∀ w : World, Calls Tryz.prog 70 #[.int .u64 x, .int .i64 255] w fun e w' => e = .returned (.string (strOfNums (placesB true x))) ∧ Below w.heap.size w w'
 |
  n, x, h, hn, w => by
  have hx64 : x < 18446744073709551616 := Nat.lt_of_lt_of_le h (Nat.le_trans (Nat.pow_le_pow_right (by omega) hn) (by decide))
  have hm : ((x : Nat) : Int).tmod 256 = ((x % 256 : Nat) : Int) := rfl
  have hm2 : ((x : Nat) : Int) % 256 = ((x % 256 : Nat) : Int) := rfl
  obtain ⟨Z, hZ⟩ : ∃ Z, flipZ true ((x % 256 : Nat) : Int) = Z := ⟨_, rfl⟩
  have hz1 : (255 : Int) - ((x % 256 : Nat) : Int) = Z := by rw [← hZ]; rfl
  have hZr : 0 ≤ Z ∧ Z < 256 := by omega
  have hw1 : Z % 256 = Z := by omega
  have hc := conv_one w Z
  have hpe := placesB_eq true x
  rw [hZ] at hpe
  by_cases hs : x < 256
  ·have q1 : decide ((x : Int) < 256) = true := by simp; omega
   have q2 : decide (x < 256) = true := by simpa using hs
   have HP : Hid (placesB true x = [Z]) := by
    show _ = _
    rw [hpe, if_pos hs]
   have HZ := Lib.hid hZ
   clear hpe hZ h
   generalize ((x % 256 : Nat) : Int) = C at *
   go_enter Tryz.func70, Tryz.ntmps70
   go_wp2_with fail
   go_ret
   exact ⟨by rw [HP.out]; rfl, bnew (brefl w) _⟩
  ·match n, h, hn with
   | 0, h, _ => exact absurd h (by simp; omega)
   |
    n + 1, h, hn =>
    have q1 : decide ((x : Int) < 256) = false := by simp; omega
    have q2 : decide (x < 256) = false := by simpa using hs
    have hlt : x / 256 < 256 ^ n := by rw [Nat.pow_succ] at h; omega
    have HI := Lib.hid (places_neg n (x / 256) hlt (by omega))
    have hq : ((x : Nat) : Int).tdiv 256 = ((x / 256 : Nat) : Int) := rfl
    have hq2 : ((x : Nat) : Int) / 256 = ((x / 256 : Nat) : Int) := rfl
    have hl := placesB_len true n (x / 256) hlt
    have hcat := strcat (placesB true (x / 256)) [Z] (by simp; omega)
    have HP : Hid (strOfNums (placesB true (x / 256) ++ [Z]) = strOfNums (placesB true x)) := by
     show _ = _
     rw [hpe, if_neg hs]
    have HZ := Lib.hid hZ
    clear hpe hZ h hlt hl
    generalize strOfNums (placesB true (x / 256) ++ [Z]) = U at *
    generalize strOfNums (placesB true (x / 256)) = S at *
    generalize strOfNums [Z] = T at *
    generalize x / 256 = x2 at *
    generalize ((x % 256 : Nat) : Int) = C at *
    go_enter Tryz.func70, Tryz.ntmps70
    go_wp2_with fail
    refine (HI.out _).mono ?_
    rintro e w1 ⟨rfl, hb1⟩
    go_wp2_with fail
    go_ret
    exact ⟨by rw [← HP.out]; rfl, bcall (bnew (brefl w) _) hb1⟩
def numA (n : Int) : List Int := if -112 ≤ n ∧ n ≤ 111 then [128 + n] else if 0 < n then (239 + ((placesB false (n - 112).toNat).length : Int)) :: placesB false (n - 112).toNat else (16 - ((placesB true (-(n + 113)).toNat).length : Int)) :: placesB true (-(n + 113)).toNat
theorem placesB_pos (fl : Bool) (x : Nat) : 1 ≤ (placesB fl x).length := by
 rw [placesB_eq]
 split <;> simp
theorem placesB_false (x : Nat) : placesB false x = places x := by
 unfold placesB
 have : (flipZ false) = id := by funext z; rfl
 rw [this, List.map_id]
theorem numA_eq {n : Int} (h0 : 0 ≤ n) (h1 : n ≤ 9223372036854775807) : numA n = numZ n.toNat := by
 obtain ⟨m, rfl⟩ := Int.eq_ofNat_of_zero_le h0
 unfold numA numZ
 by_cases h : m ≤ 111
 ·rw [if_pos (by omega), if_pos (show ((m : Int)).toNat ≤ 111 by omega)]
  simp
 ·rw [if_neg (by omega), if_pos (by omega), if_neg (show ¬ ((m : Int)).toNat ≤ 111 by omega), placesB_false]
  have e1 : ((m : Int) - 112).toNat = m - 112 := by omega
  have e2 : ((m : Int)).toNat - 112 = m - 112 := by omega
  rw [e1, e2, ← places_be (szN (m - 112)) (m - 112) (by omega) rfl, beZ_length]
  simp
theorem refnum_any (n : Int) (h0 : -9223372036854775808 ≤ n) (h1 : n ≤ 9223372036854775807) (w : World) : Calls Tryz.prog 34 #[.int .i64 n] w fun e w' => e = .returned (.string (strOfNums (numA n))) ∧ Below w.heap.size w w' := by
 by_cases c1 : -112 ≤ n ∧ n ≤ 111
 ·have HP : Hid (numA n = [128 + n]) := if_pos c1
  obtain ⟨a, b⟩ := c1
  have q1 : decide (n ≥ -112) = true := by simpa using a
  have q2 : decide (n ≤ 111) = true := by simpa using b
  have hw : (128 + n) % 256 = 128 + n := by omega
  have hc := conv_one w (128 + n)
  go_enter Tryz.func34, Tryz.ntmps34
  go_wp2_with fail
  go_ret
  exact ⟨by rw [HP.out]; rfl, bnew (brefl w) _⟩
 by_cases c2 : 0 < n
 ·have hn : 112 ≤ n := by omega
  obtain ⟨m, hm⟩ : ∃ m : Nat, n = (m : Int) + 112 := ⟨(n - 112).toNat, by omega⟩
  subst hm
  have em : ((m : Int) + 112 - 112).toNat = m := by omega
  have hm8 : m < 256 ^ 8 := Nat.lt_of_lt_of_le (show m < 18446744073709551616 by omega) (by decide)
  have HP : Hid (numA ((m : Int) + 112) = (239 + ((placesB false m).length : Int)) :: placesB false m) := by
   show _ = _
   unfold numA
   rw [if_neg c1, if_pos c2, em]
  have q1 : decide ((m : Int) + 112 ≥ -112) = true := by simp; omega
  have q2 : decide ((m : Int) + 112 ≤ 111) = false := by simp; omega
  have q3 : decide ((m : Int) + 112 > 0) = true := by simpa using c2
  have hs1 : (m : Int) + 112 - 112 = (m : Int) := by omega
  have HI := Lib.hid (fun w => places_pos 8 m hm8 (by omega) w)
  have hl := placesB_len false 8 m hm8
  have hl1 := placesB_pos false m
  obtain ⟨L, hL⟩ : ∃ L, (placesB false m).length = L := ⟨_, rfl⟩
  have hz : (strOfNums (placesB false m)).size = L := by rw [strOfNums_size, hL]
  have hw2 : (239 + (L : Int)) % 256 = 239 + (L : Int) := by omega
  have hcat := strcat [239 + (L : Int)] (placesB false m) (by simp; omega)
  have hcv := fun w => conv_one w (239 + (L : Int))
  have HF : Hid (strOfNums ([239 + (L : Int)] ++ placesB false m) = strOfNums (numA ((m : Int) + 112))) := by
   show _ = _
   rw [HP.out, hL]
   rfl
  generalize strOfNums ([239 + (L : Int)] ++ placesB false m) = U at *
  generalize strOfNums (placesB false m) = S at *
  clear c1 c2 em HP
  go_enter Tryz.func34, Tryz.ntmps34
  go_wp2_with fail
  refine (HI.out _).mono ?_
  rintro e w1 ⟨rfl, hb1⟩
  have hc1 := hcv w1
  generalize strOfNums [239 + (L : Int)] = T at *
  go_wp2_with fail
  go_ret
  exact ⟨by rw [← HF.out]; rfl, bnew hb1 _⟩
 ·have hn : n ≤ -113 := by omega
  obtain ⟨m, hm⟩ : ∃ m : Nat, n = -113 - (m : Int) := ⟨(-113 - n).toNat, by omega⟩
  subst hm
  have em : (-(-113 - (m : Int) + 113)).toNat = m := by omega
  have hm8 : m < 256 ^ 8 := Nat.lt_of_lt_of_le (show m < 18446744073709551616 by omega) (by decide)
  have HP : Hid (numA (-113 - (m : Int)) = (16 - ((placesB true m).length : Int)) :: placesB true m) := by
   show _ = _
   unfold numA
   rw [if_neg c1, if_neg c2, em]
  have q1 : decide (-113 - (m : Int) ≥ -112) = false := decide_eq_false (by omega)
  have q3 : decide (-113 - (m : Int) > 0) = false := decide_eq_false (by omega)
  have hs1 : -113 - (m : Int) + 113 = -(m : Int) := by omega
  have HI := Lib.hid (fun w => places_neg 8 m hm8 (by omega) w)
  have hl := placesB_len true 8 m hm8
  have hl1 := placesB_pos true m
  obtain ⟨L, hL⟩ : ∃ L, (placesB true m).length = L := ⟨_, rfl⟩
  have hz : (strOfNums (placesB true m)).size = L := by rw [strOfNums_size, hL]
  have hw2 : (16 - (L : Int)) % 256 = 16 - (L : Int) := by omega
  have hcat := strcat [16 - (L : Int)] (placesB true m) (by simp; omega)
  have hcv := fun w => conv_one w (16 - (L : Int))
  have HF : Hid (strOfNums ([16 - (L : Int)] ++ placesB true m) = strOfNums (numA (-113 - (m : Int)))) := by
   show _ = _
   rw [HP.out, hL]
   rfl
  generalize strOfNums ([16 - (L : Int)] ++ placesB true m) = U at *
  generalize strOfNums (placesB true m) = S at *
  clear c1 c2 em HP
  go_enter Tryz.func34, Tryz.ntmps34
  go_wp2_with fail
  refine (HI.out _).mono ?_
  rintro e w1 ⟨rfl, hb1⟩
  have hc1 := hcv w1
  generalize strOfNums [16 - (L : Int)] = T at *
  go_wp2_with fail
  go_ret
  exact ⟨by rw [← HF.out]; rfl, bnew hb1 _⟩
end Go.Proofs.YtkhemhiifhggmaaGreatDoor
namespace Go.Proofs.YtkhemhiifhggmaaGreatDoor
open Go.RowKit
def digits (fl : Bool) (t : List UInt8) (k : Nat) : List Int := (List.range k).map fun i => ((flipN fl (byteN t (i + 1)) : Nat) : Int)
theorem beZ_acc (fl : Bool) (t : List UInt8) : ∀ k, beZ k (accN fl t k) = digits fl t k
 | 0 => rfl
 |
  k + 1 => by
  have hc := flipN_in fl (byteN_in t (k + 1))
  have h1 : (accN fl t k * 256 + flipN fl (byteN t (k + 1))) / 256 = accN fl t k := by omega
  have h2 : (accN fl t k * 256 + flipN fl (byteN t (k + 1))) % 256 = flipN fl (byteN t (k + 1)) := by omega
  rw [beZ_snoc, accN, h1, h2, beZ_acc fl t k]
  unfold digits
  rw [List.range_succ, List.map_append]
  rfl
theorem szN_le_of : ∀ (k x : Nat), 1 ≤ k → x < 256 ^ k → x < 18446744073709551616 → szN x ≤ k
 | 0, x, h, _, _ => by omega
 |
  k + 1, x, _, h, hx => by
  rcases Nat.lt_or_ge x 256 with h1 | h1
  ·rw [szN_small h1]; omega
  ·rw [szN_big h1 hx]
   rcases Nat.eq_zero_or_pos k with h0 | h0
   ·subst h0
    simp at h
    omega
   ·have := szN_le_of k (x / 256) h0 (by rw [Nat.pow_succ] at h; omega) (by omega)
    omega
theorem szN_ge_of : ∀ (k x : Nat), 256 ^ k ≤ x → x < 18446744073709551616 → k + 1 ≤ szN x
 | 0, x, _, _ => szN_pos x
 |
  k + 1, x, h, hx => by
  have h1 : 256 ≤ x := by
   have : 0 < 256 ^ k := Nat.pow_pos (by omega)
   rw [Nat.pow_succ] at h
   omega
  rw [szN_big h1 hx]
  have := szN_ge_of k (x / 256) (by rw [Nat.pow_succ] at h; omega) (by omega)
  omega
theorem acc_head (fl : Bool) (t : List UInt8) : ∀ k, (flipN fl (byteN t 1) = 0 → accN fl t (k + 1) < 256 ^ k) ∧ (flipN fl (byteN t 1) ≠ 0 → 256 ^ k ≤ accN fl t (k + 1))
 |
  0 => by
  simp only [accN, Nat.zero_mul, Nat.zero_add, Nat.pow_zero]
  omega
 |
  k + 1 => by
  obtain ⟨h1, h2⟩ := acc_head fl t k
  have hc := flipN_in fl (byteN_in t (k + 2))
  have e : accN fl t (k + 2) = accN fl t (k + 1) * 256 + flipN fl (byteN t (k + 2)) := rfl
  rw [e, Nat.pow_succ]
  generalize 256 ^ k = M at *
  generalize accN fl t (k + 1) = X at *
  exact ⟨fun h => by have := h1 h; omega, fun h => by have := h2 h; omega⟩
theorem szN_acc (fl : Bool) (t : List UInt8) {k : Nat} (h1 : 1 ≤ k) (h8 : k ≤ 8) : (szN (accN fl t k) = k ↔ ¬ (1 < k ∧ flipN fl (byteN t 1) = 0)) ∧ szN (accN fl t k) ≤ k := by
 obtain ⟨j, rfl⟩ : ∃ j, k = j + 1 := ⟨k - 1, by omega⟩
 have ha := accN_in fl t (j + 1)
 have hx : accN fl t (j + 1) < 18446744073709551616 := Nat.lt_of_lt_of_le ha (Nat.le_trans (Nat.pow_le_pow_right (by omega) h8) (by decide))
 have hle := szN_le_of (j + 1) _ (by omega) ha hx
 refine ⟨⟨fun h => ?_, fun h => ?_⟩, hle⟩
 ·rintro ⟨h2, h3⟩
  have := szN_le_of j _ (by omega) ((acc_head fl t j).1 h3) hx
  omega
 ·by_cases h3 : flipN fl (byteN t 1) = 0
  ·have hj : j = 0 := by
    rcases Nat.eq_zero_or_pos j with h0 | h0
    ·exact h0
    ·exact absurd ⟨by omega, h3⟩ h
   subst hj
   have := szN_pos (accN fl t (0 + 1))
   omega
  ·have := szN_ge_of j _ ((acc_head fl t j).2 h3) hx
   omega
end Go.Proofs.YtkhemhiifhggmaaGreatDoor
namespace Go.Proofs.YtkhemhiifhggmaaGreatDoor
open Go.RowKit Go.Maps
def numI (z : Int) : List Int := numZ z.toNat
def numsI (zs : List Int) : List Int := zs.flatMap numI
def pos63 (z : Int) : Prop := 0 ≤ z ∧ z ≤ 9223372036854775807
theorem numI_len {z : Int} (h : pos63 z) : 1 ≤ (numI z).length ∧ (numI z).length ≤ 9 := numZ_length (by have := h.2; have := h.1; omega)
theorem numsI_any (w : World) (A : Option Addr) (m c B : Nat) (zs : List Int) (hm : m ≤ 1000) (hs : Sl w B 1 A m (zs.map (.int .i64))) (hB : B ≤ w.heap.size) (hn : ∀ z ∈ zs, pos63 z) :
  Calls Tryz.prog 32 #[.slice A m c] w fun e w' => e = .returned (.string (strOfNums (numsI zs))) ∧ Below w.heap.size w w' := by
 have e1 : ((zs.map Int.toNat).map fun n => Value.int .i64 (n : Nat)) = zs.map (.int .i64) := by
  rw [List.map_map]
  apply List.map_congr_left
  intro z hz
  have := (hn z hz).1
  show Value.int .i64 ((z.toNat : Nat) : Int) = _
  rw [Int.toNat_of_nonneg this]
 have e2 : numsZ (zs.map Int.toNat) = numsI zs := by
  unfold numsZ numsI numI
  rw [List.flatMap_map]
 rw [← e2]
 refine nums_any w A m c B (zs.map Int.toNat) hm (by rw [e1]; exact hs) hB ?_
 intro n hn'
 obtain ⟨z, hz, rfl⟩ := List.mem_map.1 hn'
 have := hn z hz
 have h1 := this.1
 have h2 := this.2
 omega
def by8 (zs : List Int) : List UInt8 := zs.map fun n => UInt8.ofNat n.toNat
theorem str_by8 (zs : List Int) : strOfNums zs = ⟨(by8 zs).toArray⟩ := rfl
theorem by8_append (a b : List Int) : by8 (a ++ b) = by8 a ++ by8 b := List.map_append ..
theorem by8_length (a : List Int) : (by8 a).length = a.length := List.length_map ..
theorem beZ_get : ∀ (K x k : Nat), k < K → (beZ K x)[k]? = some ((x / 256 ^ (K - 1 - k) % 256 : Nat) : Int)
 | 0, _, _, h => absurd h (by omega)
 |
  K + 1, x, 0, _ => by
  rw [beZ, List.getElem?_cons_zero]
  rfl
 |
  K + 1, x, k + 1, h => by
  rw [beZ, List.getElem?_cons_succ, beZ_get K x k (by omega), show K + 1 - 1 - (k + 1) = K - 1 - k by omega]
theorem byteN_beZ (h0 : Int) (K x k : Nat) (r : List UInt8) (hk : k < K) : byteN (by8 (h0 :: beZ K x) ++ r) (k + 1) = x / 256 ^ (K - 1 - k) % 256 := by
 unfold byteN by8
 rw [List.getD_eq_getElem?_getD, List.map_cons, List.cons_append, List.getElem?_cons_succ, List.getElem?_append_left (by rw [List.length_map, beZ_length]; exact hk), List.getElem?_map, beZ_get K x k hk]
 have hy : x / 256 ^ (K - 1 - k) % 256 < 256 := Nat.mod_lt _ (by omega)
 generalize x / 256 ^ (K - 1 - k) % 256 = y at *
 simp
 omega
theorem accN_beZ (h0 : Int) (K x : Nat) (hx : x < 256 ^ K) (r : List UInt8) : ∀ k, k ≤ K → accN false (by8 (h0 :: beZ K x) ++ r) k = x / 256 ^ (K - k)
 |
  0, _ => by
  rw [accN, Nat.sub_zero, Nat.div_eq_of_lt hx]
 |
  k + 1, hk => by
  rw [accN, accN_beZ h0 K x hx r k (by omega), byteN_beZ h0 K x k r (by omega)]
  have e : K - k = (K - 1 - k) + 1 := by omega
  have e2 : K - (k + 1) = K - 1 - k := by omega
  rw [e, e2, Nat.pow_succ, ← Nat.div_div_eq_div_mul]
  generalize x / 256 ^ (K - 1 - k) = y
  show y / 256 * 256 + y % 256 = y
  omega
theorem szN_lt {x : Nat} (hx : x < 18446744073709551616) : x < 256 ^ szN x := by
 rcases Nat.lt_or_ge x (256 ^ szN x) with h | h
 ·exact h
 ·have := szN_ge_of _ x h hx
  omega
theorem numR_enc {z : Int} (h : pos63 z) (r : List UInt8) : numR (by8 (numI z) ++ r) = (z, ((numI z).length : Int), 0) := by
 obtain ⟨h0, h1⟩ := h
 obtain ⟨n, rfl⟩ := Int.eq_ofNat_of_zero_le h0
 unfold numI numZ
 rw [Int.toNat_natCast]
 by_cases hn : n ≤ 111
 ·rw [if_pos hn]
  have hb : byteN (by8 [((128 + n : Nat) : Int)] ++ r) 0 = 128 + n := by
   unfold byteN by8
   simp
   omega
  unfold numR
  rw [if_neg (by simp [by8])]
  simp only [hb]
  rw [if_pos (by omega)]
  simp
  omega
 ·rw [if_neg hn]
  obtain ⟨x, hx⟩ : ∃ x, n - 112 = x := ⟨_, rfl⟩
  rw [hx]
  have hx64 : x < 18446744073709551616 := by omega
  have h8 : szN x ≤ 8 := szN_le (by omega)
  have hp := szN_pos x
  obtain ⟨K, hK⟩ : ∃ K, szN x = K := ⟨_, rfl⟩
  have hlt := szN_lt hx64
  rw [hK] at h8 hp hlt ⊢
  obtain ⟨t, ht⟩ : ∃ t, by8 (((239 + K : Nat) : Int) :: beZ K x) ++ r = t := ⟨_, rfl⟩
  have hb : byteN t 0 = 239 + K := by
   rw [← ht]
   unfold byteN by8
   simp
   omega
  have hacc : accN false t K = x := by
   rw [← ht, accN_beZ _ K x hlt r K (Nat.le_refl _), Nat.sub_self, Nat.pow_zero, Nat.div_one]
  have hl : K < t.length := by
   rw [← ht, List.length_append, by8_length, List.length_cons, beZ_length]
   omega
  have hs := (szN_acc false t hp h8).1
  rw [hacc] at hs
  have hs := hs.1 hK
  rw [ht]
  unfold numR
  rw [if_neg (by intro e; rw [e] at hl; simp at hl)]
  simp only [hb]
  rw [if_neg (by omega), if_neg (by omega)]
  have hf : decide (239 + K < 16) = false := decide_eq_false (by omega)
  have hk : (if 239 + K < 16 then 16 - (239 + K) else 239 + K - 239) = K := by rw [if_neg (by omega)]; omega
  rw [hf, hk, if_neg (by omega), if_neg hs, hacc, if_pos (by omega), if_neg (by omega), List.length_cons, beZ_length]
  refine Prod.ext ?_ (Prod.ext ?_ rfl)
  ·show (x : Int) + 112 = (n : Int)
   omega
  ·show (K : Int) + 1 = ((K + 1 : Nat) : Int)
   omega
theorem readNum_enc {z : Int} (h : pos63 z) (r : List UInt8) : readNum (by8 (numI z) ++ r) = (z, 0, r) := by
 unfold readNum
 rw [numR_enc h r, if_pos rfl]
 simp only [Int.toNat_natCast]
 rw [List.drop_left' (by rw [by8_length])]
theorem readCnt_enc {z : Int} (h : pos63 z) (r : List UInt8) : readCnt (by8 (numI z) ++ r) = (z, 0, r) := by
 unfold readCnt
 rw [readNum_enc h r]
 rw [if_neg (by intro e; have := h.1; have := e.2; simp at this; omega)]
end Go.Proofs.YtkhemhiifhggmaaGreatDoor
namespace Go.Proofs.YtkhemhiifhggmaaGreatDoor
def loopsC : Code → List Code
 | .loop c => c :: loopsC c
 | .seq a b => loopsC a ++ loopsC b
 | .block _ c => loopsC c
 | .scope c => loopsC c
 | .cond _ a b => loopsC a ++ loopsC b
 | _ => []
noncomputable def loopOf (f : Func) (k : Nat) : Code := ((loopsC (f.body.getD .skip))[k]?).getD .skip
def regC (k : Nat) : Code → Option Code
 | .region i o d => if i == k then some (.region i o d) else none
 | .seq a b => match regC k a with
  | some c => some c
  | none => regC k b
 | .cond _ a b => match regC k a with
  | some c => some c
  | none => regC k b
 | .block _ c => regC k c
 | .loop c => regC k c
 | .scope c => regC k c
 | _ => none
noncomputable def regOf (f : Func) (k : Nat) : Code := (f.body.bind (regC k)).getD .skip
end Go.Proofs.YtkhemhiifhggmaaGreatDoor
namespace Go.Proofs.YtkhemhiifhggmaaGreatDoor
open Go.RowKit
def crcI (c : Int) : Int := bits .xor .u32 (c / 2) (bits .and .u32 3988292384 (IntKind.u32.wrap (-(bits .and .u32 c 1))))
def crcN : Nat → Int → Int
 | 0, c => c
 | k + 1, c => crcI (crcN k c)
def crcT (c : Int) : List UInt8 → Int
 | [] => c
 | b :: r => crcT (crcN 8 (bits .xor .u32 c (b.toNat : Int))) r
theorem crcT_snoc (c : Int) (l : List UInt8) (b : UInt8) : crcT c (l ++ [b]) = crcN 8 (bits .xor .u32 (crcT c l) (b.toNat : Int)) := by
 induction l generalizing c with
 | nil => rfl
 | cons x r ih => exact ih _
theorem bits_u32 (op : BinOp) (x y : Int) : 0 ≤ bits op .u32 x y ∧ bits op .u32 x y < 4294967296 := by
 unfold bits
 simp only []
 rw [IntKind.wrap_u32]
 omega
theorem crcN_range {k : Nat} {c : Int} (h : 0 ≤ c ∧ c < 4294967296) : 0 ≤ crcN k c ∧ crcN k c < 4294967296 := by
 cases k with
 | zero => exact h
 |
  succ k =>
  show 0 ≤ crcI (crcN k c) ∧ crcI (crcN k c) < _
  unfold crcI
  exact bits_u32 _ _ _
theorem crcT_range {l : List UInt8} {c : Int} (h : 0 ≤ c ∧ c < 4294967296) : 0 ≤ crcT c l ∧ crcT c l < 4294967296 := by
 induction l generalizing c with
 | nil => exact h
 | cons b r ih => exact ih (crcN_range (bits_u32 _ _ _))
set_option linter.unusedVariables false in
theorem sum_k (W0 : World) (c : Int) (hc : 0 ≤ c ∧ c < 4294967296)
  (c0 c1 c2 c4 c5 c6 c7 c8 c9 c10 c11 c12 c13 c14 c15 c26 c27 c28 u17 u18 u19 u20 u21 u22 u23 u24 u25 : Value) (Q0 : Exit → Act → World → Prop) (hQ0 : ∀ c (a a' : Act) w, a.defers = a'.defers → Q0 (.panic c) a w → Q0 (.panic c) a' w)
  (hexit : ∀ (x16 u17 u18 u19 u20 u21 u22 u23 u24 u25 : Value), Q0 (.exit 2) ⟨List.toArray (c0 :: c1 :: c2 :: .int .u32 (crcN 8 c) :: c4 :: c5 :: c6 :: c7 :: c8 :: c9 :: c10 :: c11 :: c12 :: c13 :: c14 :: c15 :: x16 :: u17 :: u18 :: u19 :: u20 :: u21 :: u22 :: u23 :: u24 :: u25 :: c26 :: c27 :: c28 :: []), []⟩ W0) :
  Code.wp Tryz.prog (.loop (loopOf Tryz.f69 1)) Q0 ⟨List.toArray (c0 :: c1 :: c2 :: .int .u32 c :: c4 :: c5 :: c6 :: c7 :: c8 :: c9 :: c10 :: c11 :: c12 :: c13 :: c14 :: c15 :: .int .i64 (0 : Int) :: u17 :: u18 :: u19 :: u20 :: u21 :: u22 :: u23 :: u24 :: u25 :: c26 :: c27 :: c28 :: []), []⟩ W0 := by
 conv => arg 2; arg 1; whnf
 go_loopw [3, 16] (fun cv kv wr => ∃ k : Nat, k ≤ 8 ∧ cv = .int .u32 (crcN k c) ∧ kv = .int .i64 (k : Int) ∧ wr = W0) (fun _ kv _ => 8 - (intOf kv).toNat)
 case atStart => exact ⟨0, Nat.zero_le _, rfl, rfl, rfl⟩
 case round =>
  obtain ⟨k, hk, rfl, rfl, rfl⟩ := hrel
  by_cases hk8 : k < 8
  ·have q1 : decide ((k : Int) < 8) = true := decide_eq_true (by omega)
   go_wp2_with fail
   go_roundw
   case rel => exact ⟨k + 1, by omega, rfl, by go_num, trivial⟩
   case measure => simp [intOf]; omega
  ·obtain rfl : k = 8 := by omega
   go_wp2_with fail
   exact hexit _ _ _ _ _ _ _ _ _ _
set_option linter.unusedVariables false in
theorem sum_o (W0 : World) (t : List UInt8) (ht : t.length ≤ 9223372036854775807) (c : Int) (hc0 : c = 4294967295)
  (c1 c2 c5 c27 c28 u4 u8 u9 u10 u11 u12 u13 u14 u15 u16 u17 u18 u19 u20 u21 u22 u23 u24 u25 u26 : Value) (Q0 : Exit → Act → World → Prop) (hQ0 : ∀ c (a a' : Act) w, a.defers = a'.defers → Q0 (.panic c) a w → Q0 (.panic c) a' w)
  (hexit : ∀ (x7 u4 u8 u9 u10 u11 u12 u13 u14 u15 u16 u17 u18 u19 u20 u21 u22 u23 u24 u25 u26 : Value), Q0 (.exit 0) ⟨List.toArray (.string ⟨t.toArray⟩ :: c1 :: c2 :: .int .u32 (crcT 4294967295 t) :: u4 :: c5 :: .int .i64 (t.length : Int) :: x7 :: u8 :: u9 :: u10 :: u11 :: u12 :: u13 :: u14 :: u15 :: u16 :: u17 :: u18 :: u19 :: u20 :: u21 :: u22 :: u23 :: u24 :: u25 :: u26 :: c27 :: c28 :: []), []⟩ W0) :
  Code.wp Tryz.prog (.loop (loopOf Tryz.f69 0)) Q0 ⟨List.toArray (.string ⟨t.toArray⟩ :: c1 :: c2 :: .int .u32 c :: u4 :: c5 :: .int .i64 (t.length : Int) :: .int .i64 (0 : Int) :: u8 :: u9 :: u10 :: u11 :: u12 :: u13 :: u14 :: u15 :: u16 :: u17 :: u18 :: u19 :: u20 :: u21 :: u22 :: u23 :: u24 :: u25 :: u26 :: c27 :: c28 :: []), []⟩ W0 := by
 have hz : (⟨t.toArray⟩ : ByteArray).size = t.length := by show t.toArray.size = _; simp
 conv => arg 2; arg 1; whnf
 go_loopw [3, 7] (fun cv kv wr => ∃ k : Nat, k ≤ t.length ∧ cv = .int .u32 (crcT 4294967295 (t.take k)) ∧ kv = .int .i64 (k : Int) ∧ wr = W0) (fun _ kv _ => t.length - (intOf kv).toNat)
 case atStart => exact ⟨0, Nat.zero_le _, by rw [hc0]; rfl, rfl, rfl⟩
 case round =>
  obtain ⟨k, hk, rfl, rfl, rfl⟩ := hrel
  by_cases hkn : k < t.length
  ·have q1 : decide ((k : Int) < (t.length : Int)) = true := decide_eq_true (by omega)
   obtain ⟨b, hb⟩ : ∃ b, t[k]? = some b := ⟨t[k]'hkn, List.getElem?_eq_getElem _⟩
   have hnx : crcT 4294967295 (t.take (k + 1)) = crcN 8 (bits .xor .u32 (crcT 4294967295 (t.take k)) (b.toNat : Int)) := by
    rw [List.take_add_one, hb]
    exact crcT_snoc _ _ _
   have HNX := Lib.hid hnx
   have hr := crcT_range (l := t.take k) (c := 4294967295) (by omega)
   generalize crcT 4294967295 (t.take k) = q at *
   clear hnx
   obtain ⟨z, hzb⟩ : ∃ z : Int, (b.toNat : Int) = z := ⟨_, rfl⟩
   have hbl : 0 ≤ z ∧ z < 256 := by have := b.toNat_lt; omega
   have hzm : z % 4294967296 = z := by omega
   have hbz : ∀ h, ((((⟨t.toArray⟩ : ByteArray)[k]'h).toNat : Nat) : Int) = z := fun h => by
    have h1 := (List.getElem?_eq_some_iff.1 hb).2
    show ((t.toArray[k]).toNat : Int) = _
    rw [List.getElem_toArray, h1]
    exact hzb
   go_wp2_with fail
   refine sum_k _ (bits .xor .u32 q z) (bits_u32 _ _ _) _ _ _ _ _ _ _ _ _ _ _ _ _ _ _ _ _ _ _ _ _ _ _ _ _ _ _ _ ?_ ?_
   ·exact fun c a a' w hd h => hQ0 c a a' w hd h
   intro x16 u17 u18 u19 u20 u21 u22 u23 u24 u25
   go_wp2_with fail
   go_roundw
   case rel => exact ⟨k + 1, by omega, by rw [HNX.out, hzb], by go_num, trivial⟩
   case measure => simp [intOf]; omega
  ·obtain rfl : k = t.length := by omega
   go_wp2_with fail
   rw [List.take_length]
   exact hexit _ _ _ _ _ _ _ _ _ _ _ _ _ _ _ _ _ _ _ _ _
def sumZ (t : List UInt8) : Int := bits .xor .u32 4294967295 (crcT 4294967295 t)
theorem sumZ_range (t : List UInt8) : 0 ≤ sumZ t ∧ sumZ t < 4294967296 := bits_u32 _ _ _
theorem sum_any (W : World) (t : List UInt8) (ht : t.length ≤ 9223372036854775807) :
  Calls Tryz.prog 69 #[.string ⟨t.toArray⟩] W fun e w' => e = .returned (.int .u32 (sumZ t)) ∧ w' = W := by
 have hz : (⟨t.toArray⟩ : ByteArray).size = t.length := by show t.toArray.size = _; simp
 have hr := crcT_range (l := t) (c := 4294967295) (by omega)
 go_enter Tryz.func69, Tryz.ntmps69
 go_wp2_with fail
 refine sum_o _ t ht _ rfl _ _ _ _ _ _ _ _ _ _ _ _ _ _ _ _ _ _ _ _ _ _ _ _ _ _ (fun c a a' w hd h => by cases a; cases a'; cases hd; exact h) ?_
 intro x7 u4 u8 u9 u10 u11 u12 u13 u14 u15 u16 u17 u18 u19 u20 u21 u22 u23 u24 u25 u26
 go_wp2_with fail
 go_ret
 exact ⟨rfl, rfl⟩
end Go.Proofs.YtkhemhiifhggmaaGreatDoor
namespace Go.Proofs.YtkhemhiifhggmaaGreatDoor
open Go.RowKit Go.Maps
theorem size_arr (t : List UInt8) : (⟨t.toArray⟩ : ByteArray).size = t.length := by show t.toArray.size = _; simp
theorem cat_arr (a b : List UInt8) (h : a.length + b.length ≤ 4611686018427387904) (w : World) : (Op.stringOp .add ⟨a.toArray⟩ ⟨b.toArray⟩).run Tryz.prog w = .ok (.string ⟨(a ++ b).toArray⟩) w := by
 have e : (⟨a.toArray⟩ : ByteArray) ++ ⟨b.toArray⟩ = ⟨(a ++ b).toArray⟩ := by
  apply ByteArray.ext
  simp
 rw [← e]
 exact run_string_add_sum w _ _ (by rw [size_arr, size_arr]; omega)
theorem sl_new (w : World) (cs : Array Value) (e size m : Nat) {nb : Nat} (hb : w.heap.size = nb) (hm : cs.size = m * size) : Sl (w.alloc (.cells cs e)) (w.alloc (.cells cs e)).heap.size size (some ⟨nb, 0, none⟩) m cs.toList := by
 subst hb
 refine ⟨by simpa using hm, fun _ => ⟨w.heap.size, 0, rfl, by simp, fun j u hu => ?_⟩⟩
 have := news_at w cs e j u hu
 rwa [Addr.add_lit] at this
theorem bel_alloc {w W W' : World} {o : Obj} (h : Below w.heap.size w W) (hb : Below (W.alloc o).heap.size (W.alloc o) W') : Below w.heap.size w W' := bcall (bnew h o) hb
def blockB (t : List UInt8) : List UInt8 := by8 (numI t.length) ++ t
theorem blockB_len (t : List UInt8) (ht : t.length ≤ 4611686018427387000) : t.length + 1 ≤ (blockB t).length ∧ (blockB t).length ≤ t.length + 9 := by
 have := numI_len (z := (t.length : Int)) ⟨by omega, by omega⟩
 unfold blockB
 rw [List.length_append, by8_length]
 omega
theorem block_any (w : World) (t : List UInt8) (ht : t.length ≤ 4611686018427387000) :
  Calls Tryz.prog 68 #[.string ⟨t.toArray⟩] w fun e w' => e = .returned (.string ⟨(blockB t).toArray⟩) ∧ Below w.heap.size w w' := by
 have hz := size_arr t
 have hp : pos63 (t.length : Int) := ⟨by omega, by omega⟩
 have hl := (numI_len hp).2
 have hcat := cat_arr (by8 (numI t.length)) t (by rw [by8_length]; omega)
 have hone : numsI [(t.length : Int)] = numI t.length := by simp [numsI]
 have HP := Lib.hid hp
 go_enter Tryz.func68, Tryz.ntmps68
 go_wp2_with fail
 refine (numsI_any _ _ _ _ _ [(t.length : Int)] (by omega) (sl_new _ _ _ 1 1 (by simp) rfl) (Nat.le_refl _) (by intro z hz; rw [List.mem_singleton] at hz; rw [hz]; exact HP.out)).mono ?_
 rw [hone, str_by8]
 rintro e w1 ⟨rfl, hb1⟩
 have HB := Lib.hid (bel_alloc (brefl w) hb1)
 clear hb1
 go_wp2_with fail
 go_ret
 exact ⟨rfl, HB.out⟩
def bodyB (k : Nat) (t : List UInt8) : List UInt8 := [103, 108, 115] ++ [UInt8.ofNat k] ++ blockB t
def four (c : Int) : List UInt8 := by8 [c % 256, c / 256 % 256, c / 65536 % 256, c / 16777216]
def sealB (k : Nat) (t : List UInt8) : List UInt8 := bodyB k t ++ four (sumZ (bodyB k t))
theorem bodyB_len (k : Nat) (t : List UInt8) : (bodyB k t).length = (blockB t).length + 4 := by
 unfold bodyB
 simp only [List.length_append, List.length_cons, List.length_nil]
 omega
theorem sealB_len (k : Nat) (t : List UInt8) : (sealB k t).length = (blockB t).length + 8 := by
 unfold sealB four
 rw [List.length_append, by8_length, bodyB_len]
 rfl
theorem cell_over {W W' : World} (h : Below W.heap.size W W') (p : Addr) (v : Value) (hp : W.cell? p = some v) : W'.cell? p = some v := (h.cell (p := p) (lt_of_cell hp).1).trans hp
theorem conv_cell (W : World) (b : Nat) (z : Int) (h : W.cell? ⟨b, 0, none⟩ = some (.int .u8 z)) : (convert 66 9 (.slice (some ⟨b, 0, none⟩) 1 1)).run Tryz.prog W = .ok (.string (strOfNums [z])) W := by
 refine run_convert_bytes_arg W _ _ Tryz.underlying66 Tryz.underlying5 b 0 1 1 [z] rfl ?_ 9 Tryz.underlying9
 intro i hi
 obtain rfl : i = 0 := by omega
 exact h
theorem conv_four (w : World) (a b c d : Int) : (convert 66 9 (.slice (some ⟨w.heap.size, 0, none⟩) 4 4)).run Tryz.prog (w.alloc (.cells #[.int .u8 a, .int .u8 b, .int .u8 c, .int .u8 d] 5)) = .ok (.string ⟨(by8 [a, b, c, d]).toArray⟩) (w.alloc (.cells #[.int .u8 a, .int .u8 b, .int .u8 c, .int .u8 d] 5)) := by
 have h : (w.alloc (.cells #[.int .u8 a, .int .u8 b, .int .u8 c, .int .u8 d] 5)).ownsRow 0 5 1 (.slice (some ⟨w.heap.size, 0, none⟩) 4 4) 4 ([a, b, c, d].map (.int .u8)) := own_new w #[.int .u8 a, .int .u8 b, .int .u8 c, .int .u8 d] 5 1 4 rfl (by unfold maxLen; omega) rfl (Nat.zero_le _)
 exact convert_own (P := Tryz.prog) Tryz.underlying66 Tryz.underlying5 (dst := 9) Tryz.underlying9 h
theorem seal_any (w : World) (k : Nat) (hk : k ≤ 255) (t : List UInt8) (ht : t.length ≤ 4611686018427380000) :
  Calls Tryz.prog 33 #[.int .i64 k, .string ⟨t.toArray⟩] w fun e w' => e = .returned (.tuple #[.string ⟨(sealB k t).toArray⟩, .int .i64 0]) ∧ Below w.heap.size w w' := by
 have hbl := blockB_len t (by omega)
 have hk0 : decide ((k : Int) < 0) = false := decide_eq_false (by omega)
 have hk1 : decide ((k : Int) > 255) = false := decide_eq_false (by omega)
 have hw8 : IntKind.u8.wrap (k : Int) = (k : Int) := by rw [IntKind.wrap_u8]; omega
 have hcv := fun W b => conv_cell W b (k : Int)
 have e1 : strOfNums [(k : Int)] = ⟨[UInt8.ofNat k].toArray⟩ := by simp [strOfNums]
 simp only [e1] at hcv
 have hc1 := cat_arr [103, 108, 115] [UInt8.ofNat k] (by simp)
 have hc2 := cat_arr ([103, 108, 115] ++ [UInt8.ofNat k]) (blockB t) (by simp; omega)
 have HBK := Lib.hid (fun W => block_any W t (by omega))
 have hbd' : (⟨#[103, 108, 115, UInt8.ofNat k]⟩ : ByteArray) ++ ⟨(blockB t).toArray⟩ = ⟨(bodyB k t).toArray⟩ := by
  apply ByteArray.ext
  simp [bodyB]
 have hbd : [103, 108, 115] ++ [UInt8.ofNat k] ++ blockB t = bodyB k t := rfl
 go_enter Tryz.func33, Tryz.ntmps33
 go_wp2_with fail
 go_region_with (first | (go_at_call 68; refine (HBK.out _).mono ?_; rintro e w7 ⟨rfl, hb7⟩; have HB7 := Lib.hid hb7; have h7 := cell_over hb7 ⟨w.heap.size, 0, none⟩ (.int .u8 (k : Int)); (first | simp at h7 | skip); clear hb7))
 all_goals
  clear hcv hc1 hc2 hbd hbd' HBK
  go_wp2_with fail
  refine (sum_any _ _ (by rw [bodyB_len]; omega)).mono ?_
  rintro e _ ⟨rfl, rfl⟩
  have hsr := sumZ_range (bodyB k t)
  obtain ⟨S, hS⟩ : ∃ S, sumZ (bodyB k t) = S := ⟨_, rfl⟩
  have HS := Lib.hid hS
  rw [hS] at hsr ⊢
  clear hS
  have hcv4 := fun W => conv_four W (S % 256) (S / 256 % 256) (S / 65536 % 256) (S / 16777216)
  have hcv5 := fun (W : World) (o : Obj) => conv_four (W.alloc o) (S % 256) (S / 256 % 256) (S / 65536 % 256) (S / 16777216)
  simp only [World.size_alloc] at hcv5
  have hc4 := cat_arr (bodyB k t) (by8 [S % 256, S / 256 % 256, S / 65536 % 256, S / 16777216]) (by rw [bodyB_len, by8_length]; simp; omega)
  have hsl : bodyB k t ++ by8 [S % 256, S / 256 % 256, S / 65536 % 256, S / 16777216] = sealB k t := by unfold sealB four; rw [HS.out]
  rw [hsl] at hc4
  have HSZ := Lib.hid hsl
  clear hsl
  go_wp2_with fail
  go_ret2
  refine ⟨rfl, ?_⟩
  ·repeat (first | exact brefl _ | refine bcall ?_ HB7.out | refine Below.drew ?_ | refine bnew ?_ _)
end Go.Proofs.YtkhemhiifhggmaaGreatDoor
namespace Go.Proofs.YtkhemhiifhggmaaGreatDoor
open Go.RowKit Go.Maps
def readBlk (t : List UInt8) : List UInt8 × Int × List UInt8 :=
 if (readCnt t).2.1 = 0 then if (readCnt t).1 ≤ ((readCnt t).2.2.length : Int) then ((readCnt t).2.2.take (readCnt t).1.toNat, 0, (readCnt t).2.2.drop (readCnt t).1.toNat) else ([], 2, t) else ([], (readCnt t).2.1, t)
theorem readCnt_pos (t : List UInt8) (h : (readCnt t).2.1 = 0) : 0 ≤ (readCnt t).1 := by
 unfold readCnt at h ⊢
 by_cases hc : (readNum t).2.1 = 0 ∧ (readNum t).1 < 0
 ·rw [if_pos hc] at h
  cases h
 ·rw [if_neg hc] at h ⊢
  omega
theorem run_to (t : List UInt8) (k : Nat) (h : k ≤ t.length) (w : World) : (Instr.slice 9 (.string ⟨t.toArray⟩) none (some (.int .i64 (k : Nat))) none).run Tryz.prog w = .ok (.string ⟨(t.take k).toArray⟩) w := by
 have hz := size_arr t
 have e : (⟨t.toArray⟩ : ByteArray).extract 0 k = ⟨(t.take k).toArray⟩ := by
  apply ByteArray.ext
  apply Array.ext'
  simp [ByteArray.data_extract]
 have hb : ((k : Nat) : Int) ≤ ((t.length : Nat) : Int) := by omega
 have hc : (0 : Int) ≤ (k : Nat) := by omega
 simp [Instr.slice, run_underlying Tryz.underlying9, Instr.sliceBounds, run_sliceBound, hz, hb, e]
theorem blk_any (w : World) (b : Nat) (t : List UInt8) (h : CurAt w b t) (ht : t.length ≤ 1125899906842624) : Calls Tryz.prog 76 #[.pointer (some ⟨b, 0, none⟩)] w fun e w' => e = .returned (.tuple #[.string ⟨(readBlk t).1.toArray⟩, .int .i64 (readBlk t).2.1]) ∧ CurAt w' b (readBlk t).2.2 ∧ w.grownBy w' (some b) := by
 have c0 := cell_of_row w b 0 _ _ (0, 0) h
 simp at c0
 have HN := Lib.hid (count_any w b t h ht)
 have hp := readCnt_pos t
 by_cases he : (readCnt t).2.1 = 0
 ·by_cases hl : (readCnt t).1 ≤ ((readCnt t).2.2.length : Int)
  ·have HR : readBlk t = ((readCnt t).2.2.take (readCnt t).1.toNat, 0, (readCnt t).2.2.drop (readCnt t).1.toNat) := by unfold readBlk; rw [if_pos he, if_pos hl]
   have h0 := hp he
   rw [HR]
   rw [he] at HN
   generalize (readCnt t).2.2 = u at *
   generalize (readCnt t).1 = n at *
   obtain ⟨k, rfl⟩ := Int.eq_ofNat_of_zero_le h0
   have hk : k ≤ u.length := by omega
   have hz := size_arr u
   have q2 : decide ((k : Int) > (u.length : Int)) = false := decide_eq_false (by omega)
   have r1 := run_to u k hk
   have r2 := run_from u k hk
   simp only [Int.toNat_natCast]
   clear h HR he hp hl h0
   go_enter Tryz.func76, Tryz.ntmps76
   go_wp2_with fail
   refine HN.out.mono ?_
   rintro e w1 ⟨rfl, h1, hg1⟩
   have H1 := Lib.hid h1
   have HG := Lib.hid hg1
   have c1 := cell_of_row w1 b 0 _ _ (0, 0) h1
   have f1 : w1.frozen? ⟨b, 0, none⟩ = false := by
    have := h1
    unfold CurAt at this
    simp [World.frozen?, this]
   simp at c1
   clear h1 hg1
   go_wp2_with fail
   go_ret2
   exact ⟨rfl, cur_set H1.out, HG.out.trans (set_grown' _ _ _)⟩
  ·have HR : readBlk t = ([], 2, t) := by unfold readBlk; rw [if_pos he, if_neg hl]
   have h0 := hp he
   rw [HR]
   rw [he] at HN
   generalize (readCnt t).2.2 = u at *
   generalize (readCnt t).1 = n at *
   obtain ⟨k, rfl⟩ := Int.eq_ofNat_of_zero_le h0
   have hz := size_arr u
   have q2 : decide ((k : Int) > (u.length : Int)) = true := decide_eq_true (by omega)
   have q3 : decide (u.length < k) = true := decide_eq_true (by omega)
   clear h HR he hp hl h0
   go_enter Tryz.func76, Tryz.ntmps76
   go_wp2_with fail
   refine HN.out.mono ?_
   rintro e w1 ⟨rfl, h1, hg1⟩
   have H1 := Lib.hid h1
   have HG := Lib.hid hg1
   have c1 := cell_of_row w1 b 0 _ _ (0, 0) h1
   have f1 : w1.frozen? ⟨b, 0, none⟩ = false := by
    have := h1
    unfold CurAt at this
    simp [World.frozen?, this]
   simp at c1
   clear h1 hg1
   go_wp2_with fail
   go_ret2
   exact ⟨rfl, cur_set H1.out, HG.out.trans (set_grown' _ _ _)⟩
 ·have HR : readBlk t = ([], (readCnt t).2.1, t) := by unfold readBlk; rw [if_neg he]
  rw [HR]
  generalize (readCnt t).2.2 = u at *
  generalize (readCnt t).2.1 = x at *
  generalize (readCnt t).1 = n at *
  have q1 : (x == 0) = false := by simpa using he
  have q2 : (x != 0) = true := by simpa using he
  clear h HR he hp
  go_enter Tryz.func76, Tryz.ntmps76
  go_wp2_with fail
  refine HN.out.mono ?_
  rintro e w1 ⟨rfl, h1, hg1⟩
  have H1 := Lib.hid h1
  have HG := Lib.hid hg1
  have c1 := cell_of_row w1 b 0 _ _ (0, 0) h1
  have f1 : w1.frozen? ⟨b, 0, none⟩ = false := by
   have := h1
   unfold CurAt at this
   simp [World.frozen?, this]
  simp at c1
  clear h1 hg1
  go_wp2_with fail
  go_ret2
  exact ⟨rfl, cur_set H1.out, HG.out.trans (set_grown' _ _ _)⟩
end Go.Proofs.YtkhemhiifhggmaaGreatDoor
