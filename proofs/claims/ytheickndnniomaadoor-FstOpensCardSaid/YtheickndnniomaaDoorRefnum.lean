/- The reference's form of a number (glossref01.places). -/
import Derived.Test.YtheickndnniomaaDoorCur
namespace Go.Proofs.YtheickndnniomaaDoor
open Go.RowKit

def flipZ (fl : Bool) (z : Int) : Int := if fl then 255 - z else z
/-- The bytes of a number, each turned or not. -/
def placesB (fl : Bool) (x : Nat) : List Int := (places x).map (flipZ fl)
theorem placesB_eq (fl : Bool) (x : Nat) : placesB fl x = if x < 256 then [flipZ fl ((x % 256 : Nat) : Int)] else placesB fl (x / 256) ++ [flipZ fl ((x % 256 : Nat) : Int)] := by
  unfold placesB
  rw [places_eq]
  split
  · rfl
  · rw [List.map_append]
    rfl
theorem conv_one (w : World) (z : Int) : (convert 86 9 (.slice (some ⟨w.heap.size, 0, none⟩) 1 1)).run Tryd.prog (w.alloc (.cells #[.int .u8 z] 5)) = .ok (.string (strOfNums [z])) (w.alloc (.cells #[.int .u8 z] 5)) := by
  have h : (w.alloc (.cells #[.int .u8 z] 5)).ownsRow 0 5 1 (.slice (some ⟨w.heap.size, 0, none⟩) 1 1) 1 ([z].map (.int .u8)) := own_new w #[.int .u8 z] 5 1 1 rfl (by unfold maxLen; omega) rfl (Nat.zero_le _)
  exact convert_own (P := Tryd.prog) Tryd.underlying86 Tryd.underlying5 (dst := 9) Tryd.underlying9 h
theorem strcat (a b : List Int) (h : a.length + b.length ≤ 4611686018427387904) (w : World) : (Op.stringOp .add (strOfNums a) (strOfNums b)).run Tryd.prog w = .ok (.string (strOfNums (a ++ b))) w := by
  have e : strOfNums a ++ strOfNums b = strOfNums (a ++ b) := by
    apply ByteArray.ext
    simp [strOfNums]
  rw [← e]
  exact run_string_add_sum w _ _ (by rw [strOfNums_size, strOfNums_size]; omega)
theorem placesB_len (fl : Bool) : ∀ (n x : Nat), x < 256 ^ n → (placesB fl x).length ≤ n + 1
  | 0, x, h => by
    rw [placesB_eq, if_pos (by simp at h; omega)]
    simp
  | n + 1, x, h => by
    rw [placesB_eq]
    split
    · simp
    · have := placesB_len fl n (x / 256) (by rw [Nat.pow_succ] at h; omega)
      rw [List.length_append, List.length_singleton]
      omega
set_option maxRecDepth 100000 in
set_option maxHeartbeats 4000000 in
theorem places_pos : ∀ (n x : Nat), x < 256 ^ n → n ≤ 8 → ∀ w : World, Calls Tryd.prog 44 #[.int .u64 x, .int .i64 0] w fun e w' => e = .returned (.string (strOfNums (placesB false x))) ∧ Below w.heap.size w w'
  | n, x, h, hn, w => by
    have hx64 : x < 18446744073709551616 := Nat.lt_of_lt_of_le h (Nat.le_trans (Nat.pow_le_pow_right (by omega) hn) (by decide))
    have hm : ((x : Nat) : Int).tmod 256 = ((x % 256 : Nat) : Int) := rfl
    have hm2 : ((x : Nat) : Int) % 256 = ((x % 256 : Nat) : Int) := rfl
    obtain ⟨Z, hZ⟩ : ∃ Z, flipZ false ((x % 256 : Nat) : Int) = Z := ⟨_, rfl⟩
    have hz1 : ((x % 256 : Nat) : Int) = Z := by rw [← hZ]; rfl
    have hZr : 0 ≤ Z ∧ Z < 256 := by omega
    have hw1 : Z % 256 = Z := by omega
    have hc := conv_one w Z
    have hpe := placesB_eq false x
    rw [hZ] at hpe
    by_cases hs : x < 256
    · have q1 : decide ((x : Int) < 256) = true := by simp; omega
      have q2 : decide (x < 256) = true := by simpa using hs
      have HP : Hid (placesB false x = [Z]) := by
        show _ = _
        rw [hpe, if_pos hs]
      have HZ := Lib.hid hZ
      clear hpe hZ h
      generalize ((x % 256 : Nat) : Int) = C at *
      subst hz1
      go_enter Tryd.func44, Tryd.ntmps44
      go_wp2_with fail
      go_ret
      exact ⟨by rw [HP.out]; rfl, bnew (brefl w) _⟩
    · match n, h, hn with
      | 0, h, _ => exact absurd h (by simp; omega)
      | n + 1, h, hn =>
        have q1 : decide ((x : Int) < 256) = false := by simp; omega
        have q2 : decide (x < 256) = false := by simpa using hs
        have hlt : x / 256 < 256 ^ n := by rw [Nat.pow_succ] at h; omega
        have HI := Lib.hid (places_pos n (x / 256) hlt (by omega))
        have hq : ((x : Nat) : Int).tdiv 256 = ((x / 256 : Nat) : Int) := rfl
        have hq2 : ((x : Nat) : Int) / 256 = ((x / 256 : Nat) : Int) := rfl
        have hl := placesB_len false n (x / 256) hlt
        have hcat := strcat (placesB false (x / 256)) [Z] (by simp; omega)
        have HP : Hid (strOfNums (placesB false (x / 256) ++ [Z]) = strOfNums (placesB false x)) := by
          show _ = _
          rw [hpe, if_neg hs]
        have HZ := Lib.hid hZ
        clear hpe hZ h hlt hl
        generalize strOfNums (placesB false (x / 256) ++ [Z]) = U at *
        generalize strOfNums (placesB false (x / 256)) = S at *
        generalize strOfNums [Z] = T at *
        generalize x / 256 = x2 at *
        generalize ((x % 256 : Nat) : Int) = C at *
        subst hz1
        go_enter Tryd.func44, Tryd.ntmps44
        go_wp2_with fail
        refine (HI.out _).mono ?_
        rintro e w1 ⟨rfl, hb1⟩
        go_wp2_with fail
        go_ret
        exact ⟨by rw [← HP.out]; rfl, bcall (bnew (brefl w) _) hb1⟩
set_option maxRecDepth 100000 in
set_option maxHeartbeats 4000000 in
theorem places_neg : ∀ (n x : Nat), x < 256 ^ n → n ≤ 8 → ∀ w : World, Calls Tryd.prog 44 #[.int .u64 x, .int .i64 255] w fun e w' => e = .returned (.string (strOfNums (placesB true x))) ∧ Below w.heap.size w w'
  | n, x, h, hn, w => by
    have hx64 : x < 18446744073709551616 := Nat.lt_of_lt_of_le h (Nat.le_trans (Nat.pow_le_pow_right (by omega) hn) (by decide))
    have hm : ((x : Nat) : Int).tmod 256 = ((x % 256 : Nat) : Int) := rfl
    have hm2 : ((x : Nat) : Int) % 256 = ((x % 256 : Nat) : Int) := rfl
    obtain ⟨Z, hZ⟩ : ∃ Z, flipZ true ((x % 256 : Nat) : Int) = Z := ⟨_, rfl⟩
    have hz1 : (255 : Int) - ((x % 256 : Nat) : Int) = Z := by rw [← hZ]; rfl
    have hZr : 0 ≤ Z ∧ Z < 256 := by omega
    have hw1 : Z % 256 = Z := by omega
    have hc := conv_one w Z
    have hpe := placesB_eq true x
    rw [hZ] at hpe
    by_cases hs : x < 256
    · have q1 : decide ((x : Int) < 256) = true := by simp; omega
      have q2 : decide (x < 256) = true := by simpa using hs
      have HP : Hid (placesB true x = [Z]) := by
        show _ = _
        rw [hpe, if_pos hs]
      have HZ := Lib.hid hZ
      clear hpe hZ h
      generalize ((x % 256 : Nat) : Int) = C at *
      
      go_enter Tryd.func44, Tryd.ntmps44
      go_wp2_with fail
      go_ret
      exact ⟨by rw [HP.out]; rfl, bnew (brefl w) _⟩
    · match n, h, hn with
      | 0, h, _ => exact absurd h (by simp; omega)
      | n + 1, h, hn =>
        have q1 : decide ((x : Int) < 256) = false := by simp; omega
        have q2 : decide (x < 256) = false := by simpa using hs
        have hlt : x / 256 < 256 ^ n := by rw [Nat.pow_succ] at h; omega
        have HI := Lib.hid (places_neg n (x / 256) hlt (by omega))
        have hq : ((x : Nat) : Int).tdiv 256 = ((x / 256 : Nat) : Int) := rfl
        have hq2 : ((x : Nat) : Int) / 256 = ((x / 256 : Nat) : Int) := rfl
        have hl := placesB_len true n (x / 256) hlt
        have hcat := strcat (placesB true (x / 256)) [Z] (by simp; omega)
        have HP : Hid (strOfNums (placesB true (x / 256) ++ [Z]) = strOfNums (placesB true x)) := by
          show _ = _
          rw [hpe, if_neg hs]
        have HZ := Lib.hid hZ
        clear hpe hZ h hlt hl
        generalize strOfNums (placesB true (x / 256) ++ [Z]) = U at *
        generalize strOfNums (placesB true (x / 256)) = S at *
        generalize strOfNums [Z] = T at *
        generalize x / 256 = x2 at *
        generalize ((x % 256 : Nat) : Int) = C at *
        
        go_enter Tryd.func44, Tryd.ntmps44
        go_wp2_with fail
        refine (HI.out _).mono ?_
        rintro e w1 ⟨rfl, hb1⟩
        go_wp2_with fail
        go_ret
        exact ⟨by rw [← HP.out]; rfl, bcall (bnew (brefl w) _) hb1⟩
/-- The reference's form of every number. -/
def numA (n : Int) : List Int := if -112 ≤ n ∧ n ≤ 111 then [128 + n] else if 0 < n then (239 + ((placesB false (n - 112).toNat).length : Int)) :: placesB false (n - 112).toNat else (16 - ((placesB true (-(n + 113)).toNat).length : Int)) :: placesB true (-(n + 113)).toNat
theorem placesB_pos (fl : Bool) (x : Nat) : 1 ≤ (placesB fl x).length := by
  rw [placesB_eq]
  split <;> simp
theorem placesB_false (x : Nat) : placesB false x = places x := by
  unfold placesB
  have : (flipZ false) = id := by funext z; rfl
  rw [this, List.map_id]
/-- From 0 on it is the program's. -/
theorem numA_eq {n : Int} (h0 : 0 ≤ n) (h1 : n ≤ 9223372036854775807) : numA n = numZ n.toNat := by
  obtain ⟨m, rfl⟩ := Int.eq_ofNat_of_zero_le h0
  unfold numA numZ
  by_cases h : m ≤ 111
  · rw [if_pos (by omega), if_pos (show ((m : Int)).toNat ≤ 111 by omega)]
    simp
  · rw [if_neg (by omega), if_pos (by omega), if_neg (show ¬ ((m : Int)).toNat ≤ 111 by omega), placesB_false]
    have e1 : ((m : Int) - 112).toNat = m - 112 := by omega
    have e2 : ((m : Int)).toNat - 112 = m - 112 := by omega
    rw [e1, e2, ← places_be (szN (m - 112)) (m - 112) (by omega) rfl, beZ_length]
    simp
set_option maxRecDepth 100000 in
set_option maxHeartbeats 4000000 in
theorem refnum_any (n : Int) (h0 : -9223372036854775808 ≤ n) (h1 : n ≤ 9223372036854775807) (w : World) : Calls Tryd.prog 32 #[.int .i64 n] w fun e w' => e = .returned (.string (strOfNums (numA n))) ∧ Below w.heap.size w w' := by
  by_cases c1 : -112 ≤ n ∧ n ≤ 111
  · have HP : Hid (numA n = [128 + n]) := if_pos c1
    obtain ⟨a, b⟩ := c1
    have q1 : decide (n ≥ -112) = true := by simpa using a
    have q2 : decide (n ≤ 111) = true := by simpa using b
    have hw : (128 + n) % 256 = 128 + n := by omega
    have hc := conv_one w (128 + n)
    go_enter Tryd.func32, Tryd.ntmps32
    go_wp2_with fail
    go_ret
    exact ⟨by rw [HP.out]; rfl, bnew (brefl w) _⟩
  by_cases c2 : 0 < n
  · have hn : 112 ≤ n := by omega
    obtain ⟨m, hm⟩ : ∃ m : Nat, n = (m : Int) + 112 := ⟨(n - 112).toNat, by omega⟩
    subst hm
    have em : ((m : Int) + 112 - 112).toNat = m := by omega
    have hm8 : m < 256 ^ 8 := Nat.lt_of_lt_of_le (show m < 18446744073709551616 by omega) (by decide)
    have HP : Hid (numA ((m : Int) + 112) = (239 + ((placesB false m).length : Int)) :: placesB false m) := by
      show _ = _
      unfold numA
      rw [if_neg c1, if_pos c2, em]
    have q1 : decide ((m : Int) + 112 ≥ -112) = true := by simp; omega
    have q2 : decide ((m : Int) + 112 ≤ 111) = false := by simp; omega
    have q3 : decide ((m : Int) + 112 > 0) = true := by simpa using c2
    have hs1 : (m : Int) + 112 - 112 = (m : Int) := by omega
    have HI := Lib.hid (fun w => places_pos 8 m hm8 (by omega) w)
    have hl := placesB_len false 8 m hm8
    have hl1 := placesB_pos false m
    obtain ⟨L, hL⟩ : ∃ L, (placesB false m).length = L := ⟨_, rfl⟩
    have hz : (strOfNums (placesB false m)).size = L := by rw [strOfNums_size, hL]
    have hw2 : (239 + (L : Int)) % 256 = 239 + (L : Int) := by omega
    have hcat := strcat [239 + (L : Int)] (placesB false m) (by simp; omega)
    have hcv := fun w => conv_one w (239 + (L : Int))
    have HF : Hid (strOfNums ([239 + (L : Int)] ++ placesB false m) = strOfNums (numA ((m : Int) + 112))) := by
      show _ = _
      rw [HP.out, hL]
      rfl
    generalize strOfNums ([239 + (L : Int)] ++ placesB false m) = U at *
    generalize strOfNums (placesB false m) = S at *
    clear c1 c2 em HP
    go_enter Tryd.func32, Tryd.ntmps32
    go_wp2_with fail
    refine (HI.out _).mono ?_
    rintro e w1 ⟨rfl, hb1⟩
    have hc1 := hcv w1
    generalize strOfNums [239 + (L : Int)] = T at *
    go_wp2_with fail
    go_ret
    exact ⟨by rw [← HF.out]; rfl, bnew hb1 _⟩
  · have hn : n ≤ -113 := by omega
    obtain ⟨m, hm⟩ : ∃ m : Nat, n = -113 - (m : Int) := ⟨(-113 - n).toNat, by omega⟩
    subst hm
    have em : (-(-113 - (m : Int) + 113)).toNat = m := by omega
    have hm8 : m < 256 ^ 8 := Nat.lt_of_lt_of_le (show m < 18446744073709551616 by omega) (by decide)
    have HP : Hid (numA (-113 - (m : Int)) = (16 - ((placesB true m).length : Int)) :: placesB true m) := by
      show _ = _
      unfold numA
      rw [if_neg c1, if_neg c2, em]
    have q1 : decide (-113 - (m : Int) ≥ -112) = false := decide_eq_false (by omega)
    have q3 : decide (-113 - (m : Int) > 0) = false := decide_eq_false (by omega)
    have hs1 : -113 - (m : Int) + 113 = -(m : Int) := by omega
    have HI := Lib.hid (fun w => places_neg 8 m hm8 (by omega) w)
    have hl := placesB_len true 8 m hm8
    have hl1 := placesB_pos true m
    obtain ⟨L, hL⟩ : ∃ L, (placesB true m).length = L := ⟨_, rfl⟩
    have hz : (strOfNums (placesB true m)).size = L := by rw [strOfNums_size, hL]
    have hw2 : (16 - (L : Int)) % 256 = 16 - (L : Int) := by omega
    have hcat := strcat [16 - (L : Int)] (placesB true m) (by simp; omega)
    have hcv := fun w => conv_one w (16 - (L : Int))
    have HF : Hid (strOfNums ([16 - (L : Int)] ++ placesB true m) = strOfNums (numA (-113 - (m : Int)))) := by
      show _ = _
      rw [HP.out, hL]
      rfl
    generalize strOfNums ([16 - (L : Int)] ++ placesB true m) = U at *
    generalize strOfNums (placesB true m) = S at *
    clear c1 c2 em HP
    go_enter Tryd.func32, Tryd.ntmps32
    go_wp2_with fail
    refine (HI.out _).mono ?_
    rintro e w1 ⟨rfl, hb1⟩
    have hc1 := hcv w1
    generalize strOfNums [16 - (L : Int)] = T at *
    go_wp2_with fail
    go_ret
    exact ⟨by rw [← HF.out]; rfl, bnew hb1 _⟩
end Go.Proofs.YtheickndnniomaaDoor
