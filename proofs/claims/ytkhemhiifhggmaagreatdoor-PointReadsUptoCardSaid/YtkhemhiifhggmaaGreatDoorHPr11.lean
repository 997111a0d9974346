/- glossref01.Block, glossref02.Seal. -/
import Derived.Test.YtkhemhiifhggmaaGreatDoorHPr10
import Derived.Test.YtkhemhiifhggmaaGreatDoorHPr5
import Derived.Deep.RegionHeld3
import Derived.Test.YtkhemhiifhggmaaGreatDoorHPr6
set_option maxRecDepth 100000
set_option maxHeartbeats 40000000
namespace Go.Proofs.YtkhemhiifhggmaaGreatDoor
open Go.RowKit Go.Maps
set_option linter.unusedVariables false
theorem rblock_any (w : World) (t : List UInt8) (ht : t.length ≤ 4611686018427387000) :
  Calls Tryz.prog 71 #[.string ⟨t.toArray⟩] w fun e w' => e = .returned (.string ⟨(blockB t).toArray⟩) ∧ Below w.heap.size w w' := by
 have hz := size_arr t
 have hl := (numI_len (z := (t.length : Int)) ⟨by omega, by omega⟩).2
 have hcat := cat_arr (by8 (numI t.length)) t (by rw [by8_length]; omega)
 have hb : by8 (numI t.length) ++ t = blockB t := rfl
 rw [hb] at hcat
 have HN := Lib.hid (fun W => refnum_any (t.length : Int) (by omega) (by omega) W)
 rw [numA_eq (n := (t.length : Int)) (by omega) (by omega), str_by8] at HN
 have HN : Hid (∀ W : World, Calls Tryz.prog 34 #[.int .i64 (t.length : Int)] W fun e w' => e = .returned (.string ⟨(by8 (numI t.length)).toArray⟩) ∧ Below W.heap.size W w') := HN
 clear hb hl
 go_enter Tryz.func71, Tryz.ntmps71
 go_wp2_with fail
 refine (HN.out _).mono ?_
 rintro e w1 ⟨rfl, hb1⟩
 have HB := Lib.hid hb1
 clear hb1
 go_wp2_with fail
 go_ret
 exact ⟨rfl, HB.out⟩
def lowB (S : Int) (i : Nat) : List Int := (List.range i).map fun j => S / 256 ^ j % 256
theorem lowB_next (S : Int) (i : Nat) : lowB S (i + 1) = lowB S i ++ [S / 256 ^ i % 256] := by
 unfold lowB
 rw [List.range_succ, List.map_append]
 rfl
theorem lowB_four {S : Int} (h : 0 ≤ S ∧ S < 4294967296) : by8 (lowB S 4) = four S := by
 unfold lowB four
 have e : (List.range 4).map (fun j => S / 256 ^ j % 256) = [S / 1 % 256, S / 256 % 256, S / 65536 % 256, S / 16777216 % 256] := rfl
 rw [e]
 have e1 : S / 1 = S := Int.ediv_one S
 have e2 : S / 16777216 % 256 = S / 16777216 := by omega
 rw [e1, e2]
theorem rseal_o (w W0 : World) (S : Int) (hS : 0 ≤ S ∧ S < 4294967296) (HB0 : Hid (Below w.heap.size w W0))
  (c0 c1 c2 c3 c4 c5 c6 c10 c11 c12 c13 c14 c15 c16 c17 c18 c19 c20 c21 c22 c23 c24 c25 c38 c39 c40 c41 u26 u27 u28 u29 u30 u31 u32 u33 u34 u35 u36 u37 : Value) (Q0 : Exit → Act → World → Prop) (hQ0 : ∀ c (a a' : Act) w, a.defers = a'.defers → Q0 (.panic c) a w → Q0 (.panic c) a' w)
  (hexit : ∀ (W : World) (A : Option Addr) (cp : Nat) (x7 x9 u26 u27 u28 u29 u30 u31 u32 u33 u34 u35 u36 u37 : Value), Hid (Below w.heap.size w W) → Hid (W.ownsRow w.heap.size 5 1 (.slice A 4 cp) 4 ((lowB S 4).map (.int .u8))) → Q0 (.exit 0) ⟨List.toArray (c0 :: c1 :: c2 :: c3 :: c4 :: c5 :: c6 :: x7 :: .slice A 4 cp :: x9 :: c10 :: c11 :: c12 :: c13 :: c14 :: c15 :: c16 :: c17 :: c18 :: c19 :: c20 :: c21 :: c22 :: c23 :: c24 :: c25 :: u26 :: u27 :: u28 :: u29 :: u30 :: u31 :: u32 :: u33 :: u34 :: u35 :: u36 :: u37 :: c38 :: c39 :: c40 :: c41 :: []), []⟩ W) :
  Code.wp Tryz.prog (.loop (loopOf Tryz.f35 0)) Q0 ⟨List.toArray (c0 :: c1 :: c2 :: c3 :: c4 :: c5 :: c6 :: .int .u32 S :: .slice none 0 0 :: .int .i64 (0 : Int) :: c10 :: c11 :: c12 :: c13 :: c14 :: c15 :: c16 :: c17 :: c18 :: c19 :: c20 :: c21 :: c22 :: c23 :: c24 :: c25 :: u26 :: u27 :: u28 :: u29 :: u30 :: u31 :: u32 :: u33 :: u34 :: u35 :: u36 :: u37 :: c38 :: c39 :: c40 :: c41 :: []), []⟩ W0 := by
 conv => arg 2; arg 1; whnf
 go_loopw [7, 8, 9] (fun cv rv iv wr => ∃ (i : Nat) (A : Option Addr) (cp : Nat) (T : Int), i ≤ 4 ∧ cv = .int .u32 T ∧ rv = .slice A i cp ∧ iv = .int .i64 (i : Int) ∧ Hid (T = S / 256 ^ i) ∧ Hid (Below w.heap.size w wr) ∧ Hid (wr.ownsRow w.heap.size 5 1 (.slice A i cp) i ((lowB S i).map (.int .u8)))) (fun _ _ iv _ => 4 - (intOf iv).toNat)
 case atStart => exact ⟨0, none, 0, S, Nat.zero_le _, rfl, rfl, rfl, (by show _ = _; simp), HB0, ⟨by simp [lowB], .inl ⟨rfl, rfl⟩⟩⟩
 case round =>
  clear HB0
  obtain ⟨i, A, cp, T, hi, rfl, rfl, rfl, HT, HB, HR⟩ := hrel
  by_cases hin : i < 4
  ·have q0 : decide ((i : Int) < 4) = true := decide_eq_true (by omega)
   have hT : 0 ≤ T ∧ T < 4294967296 := by
    have h1 := HT.out
    have hp : (1 : Int) ≤ 256 ^ i := by
     have : (0 : Int) < 256 ^ i := Int.pow_pos (by decide)
     omega
    rw [h1]
    exact ⟨Int.ediv_nonneg hS.1 (by omega), Int.lt_of_le_of_lt (Int.ediv_le_self _ hS.1) hS.2⟩
   have HTN : Hid (T / 256 = S / 256 ^ (i + 1)) := by show _ = _; rw [HT.out, Int.pow_succ, Int.ediv_ediv_of_nonneg (Int.le_of_lt (Int.pow_pos (by decide)))]
   have HLN : Hid ((lowB S (i + 1)).map (Value.int .u8) = (lowB S i).map (Value.int .u8) ++ [.int .u8 (T % 256)]) := by show _ = _; rw [lowB_next, HT.out, List.map_append]; rfl
   have t1 : Int.tmod T 256 = T % 256 := Int.tmod_eq_emod_of_nonneg hT.1
   have t2 : Int.tdiv T 256 = T / 256 := Int.tdiv_eq_ediv_of_nonneg hT.1
   have w1 : IntKind.u8.wrap (T % 256) = T % 256 := by rw [IntKind.wrap_u8]; omega
   have w2 : IntKind.u32.wrap (T % 256) = T % 256 := by rw [IntKind.wrap_u32]; omega
   have w3 : IntKind.u32.wrap (T / 256) = T / 256 := by rw [IntKind.wrap_u32]; omega
   clear hexit
   go_wp2_with (at_builtin; refine wpList_pushm w wr _ rfl _ _ _ rfl el_u8 _ _ _ rfl HR.out (m := 1) rfl (by simp) rfl (by simp [Value.oneCell']) (by unfold maxLen; omega) (by omega) HB.out.size HB.out ?_; intro v2 w2 hown9 hb9 hg9 hor9; obtain ⟨A2, p2, rfl, _⟩ := own_shape hown9; have HR2 := Lib.hid hown9; have HW2 := Lib.hid hb9; clear hown9 hb9 hg9 hor9)
   go_roundw
   case rel => exact ⟨i + 1, A2, p2, T / 256, by omega, by go_num, rfl, by go_num, HTN, HW2, by rw [HLN.out]; exact HR2⟩
   case measure => simp [intOf]; omega
  ·obtain rfl : i = 4 := by omega
   have q0 : decide (((4 : Nat) : Int) < 4) = false := rfl
   go_wp2_with fail
   exact hexit wr A cp _ _ _ _ _ _ _ _ _ _ _ _ _ _ HB HR
theorem rseal_any (w : World) (k : Nat) (hk : k ≤ 255) (t : List UInt8) (ht : t.length ≤ 137438950000) :
  Calls Tryz.prog 35 #[.int .i64 k, .string ⟨t.toArray⟩] w fun e w' => e = .returned (.tuple #[.string ⟨(sealB k t).toArray⟩, .int .i64 0]) ∧ Below w.heap.size w w' := by
 have hbl := blockB_len t (by omega)
 have hk0 : decide ((k : Int) < 0) = false := decide_eq_false (by omega)
 have hk1 : decide ((k : Int) > 255) = false := decide_eq_false (by omega)
 have hw8 : IntKind.u8.wrap (k : Int) = (k : Int) := by rw [IntKind.wrap_u8]; omega
 have hcv := fun W b => conv_cell W b (k : Int)
 have e1 : strOfNums [(k : Int)] = ⟨[UInt8.ofNat k].toArray⟩ := by simp [strOfNums]
 simp only [e1] at hcv
 have hc1 := cat_arr [103, 108, 115] [UInt8.ofNat k] (by simp)
 have hc2 := cat_arr ([103, 108, 115] ++ [UInt8.ofNat k]) (blockB t) (by simp; omega)
 have HBK := Lib.hid (fun W => rblock_any W t (by omega))
 have hbd' : (⟨#[103, 108, 115, UInt8.ofNat k]⟩ : ByteArray) ++ ⟨(blockB t).toArray⟩ = ⟨(bodyB k t).toArray⟩ := by
  apply ByteArray.ext
  simp [bodyB]
 have hbd : [103, 108, 115] ++ [UInt8.ofNat k] ++ blockB t = bodyB k t := rfl
 go_enter Tryz.func35, Tryz.ntmps35
 go_wp2_with fail
 go_region_with (first | (go_at_call 71; refine (HBK.out _).mono ?_; rintro e w7 ⟨rfl, hb7⟩; have HB7 := Lib.hid hb7; have h7 := cell_over hb7 ⟨w.heap.size, 0, none⟩ (.int .u8 (k : Int)); (first | simp at h7 | skip); clear hb7))
 all_goals
  clear hcv hc1 hc2 hbd hbd' HBK
  go_wp2_with fail
  refine (rsum_any _ _ (by rw [bodyB_len]; omega)).mono ?_
  rintro e w8 ⟨rfl, hb8⟩
  have HB8 : Hid (Below w.heap.size w w8) := by
   refine bcall ?_ hb8
   repeat (first | exact brefl _ | refine bcall ?_ HB7.out | refine Below.drew ?_ | refine bnew ?_ _)
  have hsr := sumZ_range (bodyB k t)
  obtain ⟨S, hS⟩ : ∃ S, sumZ (bodyB k t) = S := ⟨_, rfl⟩
  have HS := Lib.hid hS
  rw [hS] at hsr ⊢
  clear hS hb8
  go_wp2_with fail
  refine rseal_o w w8 S hsr HB8 _ _ _ _ _ _ _ _ _ _ _ _ _ _ _ _ _ _ _ _ _ _ _ _ _ _ _ _ _ _ _ _ _ _ _ _ _ _ _ _ (fun c a a' w hd h => by cases a; cases a'; cases hd; exact h) ?_
  intro V A cp x7 x9 u26 u27 u28 u29 u30 u31 u32 u33 u34 u35 u36 u37 HBV HRV
  have hcv4 := convert_own (P := Tryz.prog) Tryz.underlying66 Tryz.underlying5 (dst := 9) (src := 66) Tryz.underlying9 HRV.out
  rw [str_by8, lowB_four hsr] at hcv4
  have hc4 := cat_arr (bodyB k t) (four S) (by unfold four; rw [bodyB_len, by8_length]; simp; omega)
  have hsl : bodyB k t ++ four S = sealB k t := by unfold sealB; rw [HS.out]
  rw [hsl] at hc4
  clear hsl
  go_wp2_with fail
  go_ret2
  exact ⟨rfl, HBV.out⟩
end Go.Proofs.YtkhemhiifhggmaaGreatDoor
namespace Go.Proofs.YtkhemhiifhggmaaGreatDoor
open Go.RowKit
theorem by8_take (t : List UInt8) : ∀ k, k ≤ t.length → by8 ((List.range k).map fun i => ((byteN t i : Nat) : Int)) = t.take k
 | 0, _ => rfl
 |
  k + 1, h => by
  rw [List.range_succ, List.map_append, by8_append, by8_take t k (by omega), List.take_add_one, List.getElem?_eq_getElem (by omega)]
  congr 1
  show [UInt8.ofNat ((byteN t k : Nat) : Int).toNat] = [t[k]]
  congr 1
  unfold byteN
  rw [List.getD_eq_getElem?_getD, List.getElem?_eq_getElem (show k < t.length by omega)]
  simp
theorem flip_flip (fl : Bool) {c : Nat} (h : c < 256) : flipZ fl ((flipN fl c : Nat) : Int) = (c : Int) := by
 unfold flipZ flipN
 cases fl <;> simp <;> omega
theorem range_cons (f : Nat → Int) (k : Nat) : (List.range (k + 1)).map f = f 0 :: (List.range k).map fun i => f (i + 1) := by
 rw [List.range_succ_eq_map, List.map_cons, List.map_map]
 rfl
theorem num_take {fl : Bool} {t : List UInt8} {k : Nat} {hd : Nat → Int} (h1 : 1 ≤ k) (h8 : k ≤ 8) (hlen : k < t.length) (h0 : (byteN t 0 : Int) = hd k) (hinj : ∀ j, 1 ≤ j → j ≤ 8 → hd j = hd k → j = k) (hr : ∀ j, 1 ≤ j → j ≤ 8 → 0 ≤ hd j ∧ hd j < 256) :
  strOfNums (hd (placesB fl (accN fl t k)).length :: placesB fl (accN fl t k)) = ⟨(t.take (k + 1)).toArray⟩ ↔ ¬ (1 < k ∧ flipN fl (byteN t 1) = 0) := by
 obtain ⟨s1, s2⟩ := szN_acc fl t h1 h8
 have ha := accN_in fl t k
 have hx : accN fl t k < 18446744073709551616 := Nat.lt_of_lt_of_le ha (Nat.le_trans (Nat.pow_le_pow_right (by omega) h8) (by decide))
 have hpl : placesB fl (accN fl t k) = (beZ (szN (accN fl t k)) (accN fl t k)).map (flipZ fl) := by
  unfold placesB
  rw [← places_be (szN (accN fl t k)) (accN fl t k) hx rfl]
 have hL : (placesB fl (accN fl t k)).length = szN (accN fl t k) := by rw [hpl, List.length_map, beZ_length]
 have hp := szN_pos (accN fl t k)
 rw [← s1, hL, str_by8]
 constructor
 ·intro h
  have h2 : by8 (hd (szN (accN fl t k)) :: placesB fl (accN fl t k)) = t.take (k + 1) := by
   have := congrArg (fun b : ByteArray => b.data.toList) h
   simpa using this
  have h3 : UInt8.ofNat (hd (szN (accN fl t k))).toNat = t[0]'(by omega) := by
   have := congrArg (fun l : List UInt8 => l[0]?) h2
   simp only [by8, List.map_cons, List.getElem?_cons_zero, List.getElem?_take] at this
   rw [if_pos (by omega), List.getElem?_eq_getElem (by omega)] at this
   injection this
  have h4 : byteN t 0 = (t[0]'(by omega)).toNat := by
   unfold byteN
   rw [List.getD_eq_getElem?_getD, List.getElem?_eq_getElem (show 0 < t.length by omega)]
   rfl
  rw [← h3] at h4
  obtain ⟨r1, r2⟩ := hr (szN (accN fl t k)) hp (by omega)
  have h5 : (UInt8.ofNat (hd (szN (accN fl t k))).toNat).toNat = (hd (szN (accN fl t k))).toNat := by
   simp
   omega
  rw [h5] at h4
  exact hinj _ hp (by omega) (by rw [← h0, h4]; omega)
 ·intro h
  rw [h]
  have h2 : placesB fl (accN fl t k) = (List.range k).map fun i => ((byteN t (i + 1) : Nat) : Int) := by
   rw [hpl, h, beZ_acc]
   unfold digits
   rw [List.map_map]
   apply List.map_congr_left
   intro i _
   exact flip_flip fl (byteN_in t (i + 1))
  rw [h2, ← h0, ← range_cons (fun i => ((byteN t i : Nat) : Int)), by8_take t (k + 1) (by omega)]
def longZ (h : Nat) : Int := if 240 ≤ h ∧ h ≤ 247 then (h : Int) - 239 else if 8 ≤ h ∧ h ≤ 15 then 16 - (h : Int) else if 16 ≤ h ∧ h < 240 then 0 else -1
theorem long_any (w : World) (h : Nat) (hb : h < 256) : Calls Tryz.prog 102 #[.int .u8 (h : Nat)] w fun e w' => e = .returned (.int .i64 (longZ h)) ∧ w' = w := by
 obtain ⟨H, hH⟩ : ∃ H : Int, (h : Int) = H := ⟨_, rfl⟩
 have HZ : Hid (longZ h = if 240 ≤ H ∧ H ≤ 247 then H - 239 else if 8 ≤ H ∧ H ≤ 15 then 16 - H else if 16 ≤ H ∧ H < 240 then 0 else -1) := by
  show _ = _
  unfold longZ
  rw [← hH]
  repeat (first | rfl | (split <;> split) | omega)
 have h0 : 0 ≤ H ∧ H < 256 := by omega
 rw [hH]
 have hw1 : IntKind.i64.wrap H = H := IntWalk.i64_in _ (by omega)
 obtain ⟨ha, hc⟩ := h0
 clear hH hb
 obtain ⟨b1, p1⟩ : ∃ b, decide (H ≥ 240) = b := ⟨_, rfl⟩
 obtain ⟨b2, p2⟩ : ∃ b, decide (H ≤ 247) = b := ⟨_, rfl⟩
 obtain ⟨b3, p3⟩ : ∃ b, decide (H ≥ 8) = b := ⟨_, rfl⟩
 obtain ⟨b4, p4⟩ : ∃ b, decide (H ≤ 15) = b := ⟨_, rfl⟩
 obtain ⟨b5, p5⟩ : ∃ b, decide (H ≥ 16) = b := ⟨_, rfl⟩
 obtain ⟨b6, p6⟩ : ∃ b, decide (H < 240) = b := ⟨_, rfl⟩
 have HP : Hid ((decide (H ≥ 240) = b1) ∧ (decide (H ≤ 247) = b2) ∧ (decide (H ≥ 8) = b3) ∧ (decide (H ≤ 15) = b4) ∧ (decide (H ≥ 16) = b5) ∧ (decide (H < 240) = b6)) := ⟨p1, p2, p3, p4, p5, p6⟩
 have hw2 : 240 ≤ H → H ≤ 247 → IntKind.i64.wrap (H - 239) = H - 239 := fun _ _ => IntWalk.i64_in _ (by omega)
 cases b1 <;> cases b2 <;> cases b3 <;> cases b4 <;> cases b5 <;> cases b6
 all_goals first
  | (exfalso; simp only [decide_eq_true_eq, decide_eq_false_iff_not] at p1 p2 p3 p4 p5 p6; omega)
  | (
    go_enter Tryz.func102, Tryz.ntmps102
    go_wp2_with fail
    go_ret
    refine ⟨?_, rfl⟩
    rw [HZ.out]
    have hp := HP.out
    simp only [decide_eq_true_eq, decide_eq_false_iff_not] at hp
    repeat (first | rfl | (exfalso; omega) | split))
theorem cut_upto (t : List UInt8) (k : Nat) : (⟨t.toArray⟩ : ByteArray).extract 0 k = ⟨(t.take k).toArray⟩ := by
 apply ByteArray.ext
 apply Array.ext'
 simp [ByteArray.data_extract]
theorem str_eq (a b : ByteArray) : (a.toList == b.toList) = decide (a = b) := by
 rw [ByteArray.toList_eq, ByteArray.toList_eq]
 by_cases h : a = b
 ·subst h; simp
 ·have : a.data.toList ≠ b.data.toList := fun e => h (ByteArray.ext (Array.toList_inj.1 e))
  rw [decide_eq_false h]
  exact beq_eq_false_iff_ne.2 this
theorem numR_zero (t : List UInt8) (h : (numR t).2.2 ≠ 0) : (numR t).1 = 0 := by
 unfold numR at h ⊢
 by_cases hne : t = []
 ·rw [if_pos hne]
 rw [if_neg hne] at h ⊢
 simp only at h ⊢
 by_cases h1 : 16 ≤ byteN t 0 ∧ byteN t 0 < 240
 ·rw [if_pos h1] at h; exact absurd rfl h
 rw [if_neg h1] at h ⊢
 by_cases h2 : byteN t 0 < 8 ∨ 247 < byteN t 0
 ·rw [if_pos h2]
 rw [if_neg h2] at h ⊢
 generalize (if byteN t 0 < 16 then 16 - byteN t 0 else byteN t 0 - 239) = K at *
 by_cases h3 : t.length ≤ K
 ·rw [if_pos h3]
 rw [if_neg h3] at h ⊢
 generalize decide (byteN t 0 < 16) = fl at *
 by_cases h4 : 1 < K ∧ flipN fl (byteN t 1) = 0
 ·rw [if_pos h4]
 rw [if_neg h4] at h ⊢
 by_cases h5 : accN fl t K ≤ 9223372036854775695
 ·rw [if_pos h5] at h
  by_cases h6 : byteN t 0 < 16
  ·rw [if_pos h6] at h; exact absurd rfl h
  ·rw [if_neg h6] at h; exact absurd rfl h
 ·rw [if_neg h5]
theorem refread_pos (w : World) (t : List UInt8) (hne : t ≠ []) (hr : 240 ≤ byteN t 0 ∧ byteN t 0 ≤ 247) (ht : t.length ≤ 1125899906842624) :
  Calls Tryz.prog 79 #[.string ⟨t.toArray⟩] w fun e w' => e = .returned (.tuple #[.int .i64 (numR t).1, .int .i64 (numR t).2.1, .int .i64 (numR t).2.2]) ∧ Below w.heap.size w w' := by
 have hlen : 0 < t.length := List.length_pos_iff.2 hne
 have q0 : t.isEmpty = false := by
  cases t with
  | nil => exact absurd rfl hne
  | cons _ _ => rfl
 have hz0 := byteN_get t 0 (by show 0 < t.toArray.size; simp; omega)
 obtain ⟨k, hk⟩ : ∃ k, byteN t 0 - 239 = k := ⟨_, rfl⟩
 have hk1 : 1 ≤ k ∧ k ≤ 8 := by omega
 have HNR : Hid (numR t = if t.length ≤ k then (0, 0, 2) else if 1 < k ∧ flipN false (byteN t 1) = 0 then (0, 0, 3) else if accN false t k ≤ 9223372036854775695 then ((accN false t k : Int) + 112, (k : Int) + 1, 0) else (0, 0, 3)) := by
  show _ = _
  unfold numR
  rw [if_neg hne]
  simp only
  rw [if_neg (by omega), if_neg (by omega)]
  rw [if_neg (show ¬ byteN t 0 < 16 by omega), if_neg (show ¬ byteN t 0 < 16 by omega), show decide (byteN t 0 < 16) = false by simp; omega]
  rw [hk]
 have HTK : Hid (k < t.length → (strOfNums ((239 + ((placesB false (accN false t k)).length : Int)) :: placesB false (accN false t k)) = ⟨(t.take (k + 1)).toArray⟩ ↔ ¬ (1 < k ∧ flipN false (byteN t 1) = 0))) := fun h =>
  num_take (fl := false) (hd := fun k => 239 + (k : Int)) hk1.1 hk1.2 h (by show (byteN t 0 : Int) = 239 + (k : Int); omega) (fun j _ _ h => by have h : 239 + (j : Int) = 239 + (k : Int) := h; omega) (fun j _ _ => by show 0 ≤ 239 + (j : Int) ∧ 239 + (j : Int) < 256; omega)
 have HLG := Lib.hid (fun w => long_any w (byteN t 0) (byteN_in t 0))
 have hlz : longZ (byteN t 0) = (k : Int) := by unfold longZ; rw [if_pos (by omega)]; omega
 rw [hlz] at HLG
 obtain ⟨H, hH⟩ : ∃ H : Int, (byteN t 0 : Int) = H := ⟨_, rfl⟩
 rw [hH] at hz0 HLG
 have hK : H - 239 = (k : Int) := by omega
 have hH2 : 240 ≤ H ∧ H ≤ 247 := by omega
 clear hH hr hk hne hlz
 obtain ⟨hHa, hHb⟩ := hH2
 obtain ⟨hk1, hk8⟩ := hk1
 have p4 : decide (H < 16) = false := by simp; omega
 have g0 : ((k : Int) == 0) = false := by simp; omega
 have g01 : (k == 0) = false := by simp; omega
 by_cases hs : t.length ≤ k
 ·have g1 : decide ((t.length : Int) < (k : Int) + 1) = true := by simp; omega
  have g2 : decide (t.length < k + 1) = true := by simp; omega
  rw [HNR.out, if_pos hs]
  go_enter Tryz.func79, Tryz.ntmps79
  go_wp2_with fail
  refine (HLG.out _).mono ?_
  rintro e w1 ⟨rfl, rfl⟩
  go_wp2_with fail
  go_ret3
  exact ⟨rfl, brefl _⟩
 have g1 : decide ((t.length : Int) < (k : Int) + 1) = false := by simp; omega
 have g2 : decide (t.length < k + 1) = false := by simp; omega
 have HT : Hid (numR t = if 1 < k ∧ flipN false (byteN t 1) = 0 then (0, 0, 3) else if accN false t k ≤ 9223372036854775695 then ((accN false t k : Int) + 112, (k : Int) + 1, 0) else (0, 0, 3)) := by
  show _ = _
  rw [HNR.out, if_neg hs]
 clear HNR
 go_enter Tryz.func79, Tryz.ntmps79
 go_wp2_with fail
 refine (HLG.out _).mono ?_
 rintro e w1 ⟨rfl, rfl⟩
 go_wp2_with fail
 clear q0 hK g1 g2
 go_loopw [6, 7] (fun xv iv wr => ∃ i : Nat, i ≤ k ∧ iv = .int .i64 ((i : Int) + 1) ∧ xv = .int .u64 (accN false t i : Nat) ∧ wr = w1) (fun _ iv _ => k + 1 - (intOf iv).toNat)
 case atStart => exact ⟨0, Nat.zero_le _, rfl, rfl, rfl⟩
 case round =>
  obtain ⟨i, hi, rfl, rfl, rfl⟩ := hrel
  by_cases hlt : i < k
  ·have g1 : decide ((i : Int) + 1 ≤ (k : Int)) = true := by simp; omega
   have hz := byteN_get t (i + 1) (by show i + 1 < t.toArray.size; simp; omega)
   have hbi := byteN_in t (i + 1)
   have hacc := accN_in false t i
   have hpow : 256 ^ i ≤ 256 ^ 7 := Nat.pow_le_pow_right (by omega) (by omega)
   have hsx : ((accN false t (i + 1) : Nat) : Int) = 256 * ((accN false t i : Nat) : Int) + (byteN t (i + 1) : Int) := by
    have e : accN false t (i + 1) = accN false t i * 256 + byteN t (i + 1) := rfl
    rw [e]
    omega
   have i0 : (0 : Int) ≤ (i : Int) + 1 := by omega
   have i1 : (i : Int) + 1 < (t.length : Int) := by omega
   go_wp2_with fail
   go_roundw
   case rel => exact ⟨i + 1, by omega, by go_num, by rw [hsx], by first | rfl | trivial⟩
   case measure => simp [intOf]; omega
  ·obtain rfl : i = k := by omega
   have g1 : decide ((i : Int) + 1 ≤ (i : Int)) = false := decide_eq_false (by omega)
   have hacc := accN_in false t i
   have hpow : 256 ^ i ≤ 256 ^ 8 := Nat.pow_le_pow_right (by omega) (by omega)
   have HTK2 := Lib.hid (HTK.out (by omega))
   clear HTK
   obtain ⟨X, hX⟩ : ∃ X : Int, ((accN false t i : Nat) : Int) = X := ⟨_, rfl⟩
   have hX0 : 0 ≤ X := by omega
   by_cases hbig : accN false t i ≤ 9223372036854775695
   ·have hX1 : X ≤ 9223372036854775695 := by omega
    have hc : decide (X > 9223372036854775695) = false := decide_eq_false (by omega)
    have HN := Lib.hid (fun w => refnum_any (X + 112) (by omega) (by omega) w)
    have hA : numA (X + 112) = (239 + ((placesB false (accN false t i)).length : Int)) :: placesB false (accN false t i) := by
     have e : (X + 112 - 112).toNat = accN false t i := by omega
     unfold numA
     rw [if_neg (by omega), if_pos (by omega), e]
    rw [hA] at HN
    have HT3 : Hid (numR t = if 1 < i ∧ flipN false (byteN t 1) = 0 then (0, 0, 3) else (X + 112, (i : Int) + 1, 0)) := by
     show _ = _
     rw [HT.out, if_pos hbig, hX]
    generalize strOfNums ((239 + ((placesB false (accN false t i)).length : Int)) :: placesB false (accN false t i)) = U at *
    rw [hX]
    clear hA hX hacc hpow hbig HT
    go_wp2_with fail
    have hcut := cut_upto t (i + 1)
    have hw1 : IntKind.i64.wrap ((i : Int) + 1) = (i : Int) + 1 := IntWalk.i64_in _ (by omega)
    have hw2 : ((i : Int) + 1).toNat = i + 1 := by omega
    have i0 : (0 : Int) ≤ (i : Int) + 1 := by omega
    have i1 : (i : Int) + 1 ≤ (t.length : Int) := by omega
    obtain ⟨V, hV⟩ : ∃ V, (⟨(t.take (i + 1)).toArray⟩ : ByteArray) = V := ⟨_, rfl⟩
    rw [hV] at hcut HTK2
    have hsame := str_eq U V
    by_cases hUV : U = V
    ·rw [decide_eq_true hUV] at hsame
     have HT4 : Hid (numR t = (X + 112, (i : Int) + 1, 0)) := by
      show _ = _
      rw [HT3.out, if_neg (HTK2.out.1 hUV)]
     subst hUV
     clear HTK2 HT3 hV
     go_region_held3 (fun _ => True) (trivial) (first | (go_at_call 34; refine (HN.out _).mono ?_; rintro e wC ⟨rfl, hbC⟩; have HBC : Hid (Below wr.heap.size wr wC) := bcall (by repeat (first | exact brefl _ | refine Below.drew ?_)) hbC))
     all_goals
      go_wp2_with fail
      go_ret3
      exact ⟨by rw [HT4.out]; rfl, HBC.out⟩
    ·rw [decide_eq_false hUV] at hsame
     have HT4 : Hid (numR t = (0, 0, 3)) := by
      show _ = _
      rw [HT3.out, if_pos (Classical.not_not.1 fun h => hUV (HTK2.out.2 h))]
     clear HTK2 HT3 hV
     go_region_held3 (fun _ => True) (trivial) (first | (go_at_call 34; refine (HN.out _).mono ?_; rintro e wC ⟨rfl, hbC⟩; have HBC : Hid (Below wr.heap.size wr wC) := bcall (by repeat (first | exact brefl _ | refine Below.drew ?_)) hbC))
     all_goals
      go_wp2_with fail
      go_ret3
      exact ⟨by rw [HT4.out]; rfl, HBC.out⟩
   ·have hc : decide (X > 9223372036854775695) = true := decide_eq_true (by omega)
    have hR : numR t = (0, 0, 3) := by
     rw [HT.out, if_neg hbig]
     split <;> rfl
    have HR := Lib.hid hR
    rw [hX]
    clear hR hX hacc hpow HT
    go_wp2_with fail
    go_ret3
    exact ⟨by rw [HR.out]; rfl, brefl _⟩
theorem refread_neg (w : World) (t : List UInt8) (hne : t ≠ []) (hr : 8 ≤ byteN t 0 ∧ byteN t 0 < 16) (ht : t.length ≤ 1125899906842624) :
  Calls Tryz.prog 79 #[.string ⟨t.toArray⟩] w fun e w' => e = .returned (.tuple #[.int .i64 (numR t).1, .int .i64 (numR t).2.1, .int .i64 (numR t).2.2]) ∧ Below w.heap.size w w' := by
 have hlen : 0 < t.length := List.length_pos_iff.2 hne
 have q0 : t.isEmpty = false := by
  cases t with
  | nil => exact absurd rfl hne
  | cons _ _ => rfl
 have hz0 := byteN_get t 0 (by show 0 < t.toArray.size; simp; omega)
 obtain ⟨k, hk⟩ : ∃ k, 16 - byteN t 0 = k := ⟨_, rfl⟩
 have hk1 : 1 ≤ k ∧ k ≤ 8 := by omega
 have HNR : Hid (numR t = if t.length ≤ k then (0, 0, 2) else if 1 < k ∧ flipN true (byteN t 1) = 0 then (0, 0, 3) else if accN true t k ≤ 9223372036854775695 then (-113 - (accN true t k : Int), (k : Int) + 1, 0) else (0, 0, 3)) := by
  show _ = _
  unfold numR
  rw [if_neg hne]
  simp only
  rw [if_neg (by omega), if_neg (by omega)]
  rw [if_pos (show byteN t 0 < 16 by omega), if_pos (show byteN t 0 < 16 by omega), show decide (byteN t 0 < 16) = true by simp; omega]
  rw [hk]
 have HTK : Hid (k < t.length → (strOfNums ((16 - ((placesB true (accN true t k)).length : Int)) :: placesB true (accN true t k)) = ⟨(t.take (k + 1)).toArray⟩ ↔ ¬ (1 < k ∧ flipN true (byteN t 1) = 0))) := fun h =>
  num_take (fl := true) (hd := fun k => 16 - (k : Int)) hk1.1 hk1.2 h (by show (byteN t 0 : Int) = 16 - (k : Int); omega) (fun j _ _ h => by have h : 16 - (j : Int) = 16 - (k : Int) := h; omega) (fun j _ _ => by show 0 ≤ 16 - (j : Int) ∧ 16 - (j : Int) < 256; omega)
 have HLG := Lib.hid (fun w => long_any w (byteN t 0) (byteN_in t 0))
 have hlz : longZ (byteN t 0) = (k : Int) := by unfold longZ; rw [if_neg (by omega), if_pos (by omega)]; omega
 rw [hlz] at HLG
 obtain ⟨H, hH⟩ : ∃ H : Int, (byteN t 0 : Int) = H := ⟨_, rfl⟩
 rw [hH] at hz0 HLG
 have hH2 : 8 ≤ H ∧ H < 16 := by omega
 clear hH hr hk hne hlz
 obtain ⟨hHa, hHb⟩ := hH2
 obtain ⟨hk1, hk8⟩ := hk1
 have p4 : decide (H < 16) = true := by simp; omega
 have g0 : ((k : Int) == 0) = false := by simp; omega
 have g01 : (k == 0) = false := by simp; omega
 by_cases hs : t.length ≤ k
 ·have g1 : decide ((t.length : Int) < (k : Int) + 1) = true := by simp; omega
  have g2 : decide (t.length < k + 1) = true := by simp; omega
  rw [HNR.out, if_pos hs]
  go_enter Tryz.func79, Tryz.ntmps79
  go_wp2_with fail
  refine (HLG.out _).mono ?_
  rintro e w1 ⟨rfl, rfl⟩
  go_wp2_with fail
  go_ret3
  exact ⟨rfl, brefl _⟩
 have g1 : decide ((t.length : Int) < (k : Int) + 1) = false := by simp; omega
 have g2 : decide (t.length < k + 1) = false := by simp; omega
 have HT : Hid (numR t = if 1 < k ∧ flipN true (byteN t 1) = 0 then (0, 0, 3) else if accN true t k ≤ 9223372036854775695 then (-113 - (accN true t k : Int), (k : Int) + 1, 0) else (0, 0, 3)) := by
  show _ = _
  rw [HNR.out, if_neg hs]
 clear HNR
 go_enter Tryz.func79, Tryz.ntmps79
 go_wp2_with fail
 refine (HLG.out _).mono ?_
 rintro e w1 ⟨rfl, rfl⟩
 go_wp2_with fail
 clear q0 g1 g2
 go_loopw [6, 7] (fun xv iv wr => ∃ i : Nat, i ≤ k ∧ iv = .int .i64 ((i : Int) + 1) ∧ xv = .int .u64 (accN true t i : Nat) ∧ wr = w1) (fun _ iv _ => k + 1 - (intOf iv).toNat)
 case atStart => exact ⟨0, Nat.zero_le _, rfl, rfl, rfl⟩
 case round =>
  obtain ⟨i, hi, rfl, rfl, rfl⟩ := hrel
  by_cases hlt : i < k
  ·have g1 : decide ((i : Int) + 1 ≤ (k : Int)) = true := by simp; omega
   have hz := byteN_get t (i + 1) (by show i + 1 < t.toArray.size; simp; omega)
   have hbi := byteN_in t (i + 1)
   have hacc := accN_in true t i
   have hpow : 256 ^ i ≤ 256 ^ 7 := Nat.pow_le_pow_right (by omega) (by omega)
   have hsx : ((accN true t (i + 1) : Nat) : Int) = 256 * ((accN true t i : Nat) : Int) + (255 - (byteN t (i + 1) : Int)) := by
    have e : accN true t (i + 1) = accN true t i * 256 + (255 - byteN t (i + 1)) := rfl
    rw [e]
    omega
   have i0 : (0 : Int) ≤ (i : Int) + 1 := by omega
   have i1 : (i : Int) + 1 < (t.length : Int) := by omega
   go_wp2_with fail
   go_roundw
   case rel => exact ⟨i + 1, by omega, by go_num, by rw [hsx], by first | rfl | trivial⟩
   case measure => simp [intOf]; omega
  ·obtain rfl : i = k := by omega
   have g1 : decide ((i : Int) + 1 ≤ (i : Int)) = false := decide_eq_false (by omega)
   have hacc := accN_in true t i
   have hpow : 256 ^ i ≤ 256 ^ 8 := Nat.pow_le_pow_right (by omega) (by omega)
   have HTK2 := Lib.hid (HTK.out (by omega))
   clear HTK
   obtain ⟨X, hX⟩ : ∃ X : Int, ((accN true t i : Nat) : Int) = X := ⟨_, rfl⟩
   have hX0 : 0 ≤ X := by omega
   by_cases hbig : accN true t i ≤ 9223372036854775695
   ·have hX1 : X ≤ 9223372036854775695 := by omega
    have hc : decide (X > 9223372036854775695) = false := decide_eq_false (by omega)
    have HN := Lib.hid (fun w => refnum_any (-113 - X) (by omega) (by omega) w)
    have hA : numA (-113 - X) = (16 - ((placesB true (accN true t i)).length : Int)) :: placesB true (accN true t i) := by
     have e : (-(-113 - X + 113)).toNat = accN true t i := by omega
     unfold numA
     rw [if_neg (by omega), if_neg (by omega), e]
    rw [hA] at HN
    have HT3 : Hid (numR t = if 1 < i ∧ flipN true (byteN t 1) = 0 then (0, 0, 3) else (-113 - X, (i : Int) + 1, 0)) := by
     show _ = _
     rw [HT.out, if_pos hbig, hX]
    generalize strOfNums ((16 - ((placesB true (accN true t i)).length : Int)) :: placesB true (accN true t i)) = U at *
    rw [hX]
    clear hA hX hacc hpow hbig HT
    go_wp2_with fail
    have hcut := cut_upto t (i + 1)
    have hw1 : IntKind.i64.wrap ((i : Int) + 1) = (i : Int) + 1 := IntWalk.i64_in _ (by omega)
    have hw2 : ((i : Int) + 1).toNat = i + 1 := by omega
    have i0 : (0 : Int) ≤ (i : Int) + 1 := by omega
    have i1 : (i : Int) + 1 ≤ (t.length : Int) := by omega
    obtain ⟨V, hV⟩ : ∃ V, (⟨(t.take (i + 1)).toArray⟩ : ByteArray) = V := ⟨_, rfl⟩
    rw [hV] at hcut HTK2
    have hsame := str_eq U V
    by_cases hUV : U = V
    ·rw [decide_eq_true hUV] at hsame
     have HT4 : Hid (numR t = (-113 - X, (i : Int) + 1, 0)) := by
      show _ = _
      rw [HT3.out, if_neg (HTK2.out.1 hUV)]
     subst hUV
     clear HTK2 HT3 hV
     go_region_held3 (fun _ => True) (trivial) (first | (go_at_call 34; refine (HN.out _).mono ?_; rintro e wC ⟨rfl, hbC⟩; have HBC : Hid (Below wr.heap.size wr wC) := bcall (by repeat (first | exact brefl _ | refine Below.drew ?_)) hbC))
     all_goals
      go_wp2_with fail
      go_ret3
      exact ⟨by rw [HT4.out]; rfl, HBC.out⟩
    ·rw [decide_eq_false hUV] at hsame
     have HT4 : Hid (numR t = (0, 0, 3)) := by
      show _ = _
      rw [HT3.out, if_pos (Classical.not_not.1 fun h => hUV (HTK2.out.2 h))]
     clear HTK2 HT3 hV
     go_region_held3 (fun _ => True) (trivial) (first | (go_at_call 34; refine (HN.out _).mono ?_; rintro e wC ⟨rfl, hbC⟩; have HBC : Hid (Below wr.heap.size wr wC) := bcall (by repeat (first | exact brefl _ | refine Below.drew ?_)) hbC))
     all_goals
      go_wp2_with fail
      go_ret3
      exact ⟨by rw [HT4.out]; rfl, HBC.out⟩
   ·have hc : decide (X > 9223372036854775695) = true := decide_eq_true (by omega)
    have hR : numR t = (0, 0, 3) := by
     rw [HT.out, if_neg hbig]
     split <;> rfl
    have HR := Lib.hid hR
    rw [hX]
    clear hR hX hacc hpow HT
    go_wp2_with fail
    go_ret3
    exact ⟨by rw [HR.out]; rfl, brefl _⟩
theorem refread_any (w : World) (t : List UInt8) (ht : t.length ≤ 1125899906842624) :
  Calls Tryz.prog 79 #[.string ⟨t.toArray⟩] w fun e w' => e = .returned (.tuple #[.int .i64 (numR t).1, .int .i64 (numR t).2.1, .int .i64 (numR t).2.2]) ∧ Below w.heap.size w w' := by
 by_cases hne : t = []
 ·subst hne
  have hr : numR [] = (0, 0, 2) := rfl
  rw [hr]
  go_enter Tryz.func79, Tryz.ntmps79
  go_wp2_with fail
  go_ret3
  exact ⟨rfl, brefl w⟩
 have hb := byteN_in t 0
 by_cases h1 : 8 ≤ byteN t 0 ∧ byteN t 0 < 16
 ·exact refread_neg w t hne h1 ht
 by_cases h2 : 240 ≤ byteN t 0 ∧ byteN t 0 ≤ 247
 ·exact refread_pos w t hne h2 ht
 have hlen : 0 < t.length := List.length_pos_iff.2 hne
 have q0 : t.isEmpty = false := by
  cases t with
  | nil => exact absurd rfl hne
  | cons _ _ => rfl
 have hz0 := byteN_get t 0 (by show 0 < t.toArray.size; simp; omega)
 have HLG := Lib.hid (fun w => long_any w (byteN t 0) (byteN_in t 0))
 by_cases h3 : 16 ≤ byteN t 0 ∧ byteN t 0 < 240
 ·have hr : Hid (numR t = ((byteN t 0 : Int) - 128, 1, 0)) := by
   show _ = _
   unfold numR
   rw [if_neg hne]
   simp only
   rw [if_pos h3]
  have hlz : longZ (byteN t 0) = 0 := by unfold longZ; rw [if_neg (by omega), if_neg (by omega), if_pos h3]
  rw [hlz] at HLG
  obtain ⟨H, hH⟩ : ∃ H : Int, (byteN t 0 : Int) = H := ⟨_, rfl⟩
  rw [hH] at hz0 hr HLG
  have hH2 : 16 ≤ H ∧ H < 240 := by omega
  obtain ⟨hHa, hHb⟩ := hH2
  have hw1 : IntKind.i64.wrap H = H := IntWalk.i64_in _ (by omega)
  clear h1 h2 h3 hH hb hne hlz
  go_enter Tryz.func79, Tryz.ntmps79
  go_wp2_with fail
  refine (HLG.out _).mono ?_
  rintro e w1 ⟨rfl, rfl⟩
  go_wp2_with fail
  go_ret3
  exact ⟨by rw [hr.out]; rfl, brefl _⟩
 ·have hr : Hid (numR t = (0, 0, 3)) := by
   show _ = _
   unfold numR
   rw [if_neg hne]
   simp only
   rw [if_neg h3, if_pos (by omega)]
  have hlz : longZ (byteN t 0) = -1 := by unfold longZ; rw [if_neg (by omega), if_neg (by omega), if_neg h3]
  rw [hlz] at HLG
  obtain ⟨H, hH⟩ : ∃ H : Int, (byteN t 0 : Int) = H := ⟨_, rfl⟩
  rw [hH] at hz0 HLG
  have hHa : 0 ≤ H ∧ H < 256 := by omega
  obtain ⟨hHa, hHb⟩ := hHa
  clear h1 h2 h3 hH hb hne hlz
  go_enter Tryz.func79, Tryz.ntmps79
  go_wp2_with fail
  refine (HLG.out _).mono ?_
  rintro e w1 ⟨rfl, rfl⟩
  go_wp2_with fail
  go_ret3
  exact ⟨by rw [hr.out]; rfl, brefl _⟩
theorem refcnt_any (w : World) (t : List UInt8) (ht : t.length ≤ 1125899906842624) :
  Calls Tryz.prog 46 #[.string ⟨t.toArray⟩] w fun e w' => (∃ k : Int, e = .returned (.tuple #[.int .i64 (readCnt t).1, .int .i64 k, .int .i64 (readCnt t).2.1]) ∧ ((readCnt t).2.1 = 0 → 0 ≤ k ∧ k ≤ t.length ∧ (readCnt t).2.2 = t.drop k.toNat)) ∧ Below w.heap.size w w' := by
 have HN := Lib.hid (refread_any w t ht)
 have HK := Lib.hid (numR_k t)
 by_cases he : (numR t).2.2 = 0
 ·obtain ⟨k, hk, k1, k2⟩ := numR_k t he
  have hR : readNum t = ((numR t).1, 0, t.drop (numR t).2.1.toNat) := if_pos he
  rw [he, hk] at HN
  rw [hk, Int.toNat_natCast] at hR
  by_cases hn : (numR t).1 < 0
  ·have hC : readCnt t = (0, 3, t) := if_pos (by rw [hR]; exact ⟨rfl, hn⟩)
   rw [hC]
   have p1 : decide ((numR t).1 < 0) = true := by simpa using hn
   generalize (numR t).1 = z at *
   clear he hk hR hC HK
   go_enter Tryz.func46, Tryz.ntmps46
   go_wp2_with fail
   refine HN.out.mono ?_
   rintro e w1 ⟨rfl, hb1⟩
   go_wp2_with fail
   go_ret3
   exact ⟨⟨0, rfl, fun h => by cases h⟩, hb1⟩
  ·have hC : readCnt t = ((numR t).1, 0, t.drop k) := by
    unfold readCnt
    rw [if_neg (by rw [hR]; exact fun h => hn h.2), hR]
   rw [hC]
   have p1 : decide ((numR t).1 < 0) = false := by simpa using hn
   generalize (numR t).1 = z at *
   clear he hk hR hC HK
   go_enter Tryz.func46, Tryz.ntmps46
   go_wp2_with fail
   refine HN.out.mono ?_
   rintro e w1 ⟨rfl, hb1⟩
   go_wp2_with fail
   go_ret3
   exact ⟨⟨k, rfl, fun _ => ⟨by omega, by omega, by simp⟩⟩, hb1⟩
 ·have hR : readNum t = (0, (numR t).2.2, t) := if_neg he
  have hC : readCnt t = (0, (numR t).2.2, t) := by
   unfold readCnt
   rw [if_neg (by rw [hR]; exact fun h => he h.1), hR]
  rw [hC]
  have hz : (numR t).1 = 0 := numR_zero t he
  rw [hz] at HN
  generalize (numR t).2.2 = err at *
  generalize (numR t).2.1 = kk at *
  have p1 : (err == 0) = false := by simpa using he
  have HE := Lib.hid he
  clear he hR hC hz HK
  go_enter Tryz.func46, Tryz.ntmps46
  go_wp2_with fail
  refine HN.out.mono ?_
  rintro e w1 ⟨rfl, hb1⟩
  go_wp2_with fail
  go_ret3
  exact ⟨⟨kk, rfl, fun h => absurd h HE.out⟩, hb1⟩
end Go.Proofs.YtkhemhiifhggmaaGreatDoor
namespace Go.Proofs.YtkhemhiifhggmaaGreatDoor
open Go.RowKit Go.Maps
set_option linter.unusedVariables false
theorem cut_arr (t : List UInt8) (a b : Nat) (h : a ≤ b) : (⟨t.toArray⟩ : ByteArray).extract a b = ⟨((t.drop a).take (b - a)).toArray⟩ := by
 apply ByteArray.ext
 apply Array.ext'
 simp [ByteArray.data_extract]
theorem rblk_any (w : World) (t : List UInt8) (ht : t.length ≤ 1125899906842624) :
  Calls Tryz.prog 78 #[.string ⟨t.toArray⟩] w fun e w' => (∃ k : Int, e = .returned (.tuple #[.string ⟨(readBlk t).1.toArray⟩, .int .i64 k, .int .i64 (readBlk t).2.1]) ∧ ((readBlk t).2.1 = 0 → 0 ≤ k ∧ k ≤ t.length ∧ (readBlk t).2.2 = t.drop k.toNat)) ∧ Below w.heap.size w w' := by
 have hz := size_arr t
 have HC := Lib.hid (refcnt_any w t ht)
 have HR : Hid (readBlk t = if (readCnt t).2.1 = 0 then if (readCnt t).1 ≤ ((readCnt t).2.2.length : Int) then ((readCnt t).2.2.take (readCnt t).1.toNat, 0, (readCnt t).2.2.drop (readCnt t).1.toNat) else ([], 2, t) else ([], (readCnt t).2.1, t)) := rfl
 have HP := Lib.hid (readCnt_pos t)
 obtain ⟨N, hN⟩ : ∃ N, (readCnt t).1 = N := ⟨_, rfl⟩
 obtain ⟨x, hx⟩ : ∃ x, (readCnt t).2.1 = x := ⟨_, rfl⟩
 obtain ⟨r, hr⟩ : ∃ r, (readCnt t).2.2 = r := ⟨_, rfl⟩
 rw [hN, hx, hr] at HC HR
 rw [hN, hx] at HP
 clear hN hx hr
 by_cases hx0 : x = 0
 ·have q0 : (x != 0) = false := by simpa using hx0
  have hN0 := HP.out hx0
  have HR1 : Hid (readBlk t = if N ≤ (r.length : Int) then (r.take N.toNat, 0, r.drop N.toNat) else ([], 2, t)) := by show _ = _; rw [HR.out, if_pos hx0]
  subst hx0
  clear HR q0
  go_enter Tryz.func78, Tryz.ntmps78
  go_wp2_with fail
  refine HC.out.mono ?_
  rintro e w1 ⟨⟨k, rfl, hk⟩, hb1⟩
  obtain ⟨hk0, hkt, hrk⟩ := hk (by trivial)
  obtain ⟨K, rfl⟩ := Int.eq_ofNat_of_zero_le hk0
  rw [Int.toNat_natCast] at hrk
  have hrl : r.length = t.length - K := by rw [hrk, List.length_drop]
  have HB1 := Lib.hid hb1
  have HRK := Lib.hid hrk
  clear hk hb1 HC hrk hk0
  by_cases hle : N ≤ (r.length : Int)
  ·have q1 : decide (N > (t.length : Int) - (K : Int)) = false := decide_eq_false (by omega)
   have HR2 : Hid (readBlk t = (r.take N.toNat, 0, r.drop N.toNat)) := by show _ = _; rw [HR1.out, if_pos hle]
   obtain ⟨M, rfl⟩ := Int.eq_ofNat_of_zero_le hN0
   rw [Int.toNat_natCast] at HR2
   have w2 : IntKind.i64.wrap ((K : Int) + (M : Int)) = ((K + M : Nat) : Int) := by rw [IntWalk.i64_in _ (by omega)]; omega
   have hcut := cut_arr t K (K + M) (by omega)
   rw [Nat.add_sub_cancel_left, ← HRK.out] at hcut
   have i1 : K ≤ K + M := by omega
   have i2 : K + M ≤ t.length := by omega
   obtain ⟨KM, hKM⟩ : ∃ KM, K + M = KM := ⟨_, rfl⟩
   have HKM := Lib.hid hKM
   rw [hKM] at w2 hcut i1 i2
   clear hKM HR1 hle hrl
   go_wp2_with fail
   go_ret3
   refine ⟨⟨(KM : Int), by rw [HR2.out]; rfl, fun _ => ⟨by omega, by omega, ?_⟩⟩, HB1.out⟩
   rw [HR2.out, HRK.out, List.drop_drop, HKM.out]
   rfl
  ·have q1 : decide (N > (t.length : Int) - (K : Int)) = true := decide_eq_true (by omega)
   have HR2 : Hid (readBlk t = ([], 2, t)) := by show _ = _; rw [HR1.out, if_neg hle]
   clear HR1 hle hrl HRK
   go_wp2_with fail
   go_ret3
   exact ⟨⟨0, by rw [HR2.out]; rfl, fun h => by rw [HR2.out] at h; cases h⟩, HB1.out⟩
 ·have q0 : (x != 0) = true := by simpa using hx0
  have HR1 : Hid (readBlk t = ([], x, t)) := by show _ = _; rw [HR.out, if_neg hx0]
  have HX := Lib.hid hx0
  clear HR HP
  go_enter Tryz.func78, Tryz.ntmps78
  go_wp2_with fail
  refine HC.out.mono ?_
  rintro e w1 ⟨⟨k, rfl, _⟩, hb1⟩
  have HB1 := Lib.hid hb1
  clear hb1 HC
  go_wp2_with fail
  go_ret3
  exact ⟨⟨0, by rw [HR1.out]; rfl, fun h => by rw [HR1.out] at h; exact absurd h HX.out⟩, HB1.out⟩
theorem ropen_o (w W0 : World) (HB0 : Hid (Below w.heap.size w W0)) (b : List UInt8) (hb : b.length ≤ 1125899906842624) (k : Nat) (hk : k ≤ 255)
  (c0 c2 c3 c8 c9 c10 c11 c12 c13 c14 c15 c16 c17 c18 c19 c20 c21 c22 c23 c39 c40 c41 c42 c43 c44 c45 c46 c47 c48 c49 c50 c51 c52 c53 c54 c55 c56 c57 c58 c59 c60 c61 c62 c63 c64 c65 c66 c67 c68 u4 u5 u24 u25 u26 u27 u28 u29 u30 u31 u32 u33 u34 u35 u36 u37 u38 : Value) (Q0 : Exit → Act → World → Prop) (hQ0 : ∀ c (a a' : Act) w, a.defers = a'.defers → Q0 (.panic c) a w → Q0 (.panic c) a' w)
  (hret : ∀ (z : Int) (W : World) (x7 u24 u25 u26 u27 u28 u29 u30 u31 u32 u33 u34 u35 u36 u37 u38 : Value), Hid (Below w.heap.size w W) → Hid (z ≠ 0 ∧ headE (wantB k) b = z) → Q0 .ret ⟨List.toArray (c0 :: .string ⟨b.toArray⟩ :: c2 :: c3 :: .string ⟨#[]⟩ :: .int .i64 z :: .string ⟨(wantB k).toArray⟩ :: x7 :: c8 :: c9 :: c10 :: c11 :: c12 :: c13 :: c14 :: c15 :: c16 :: c17 :: c18 :: c19 :: c20 :: c21 :: c22 :: c23 :: u24 :: u25 :: u26 :: u27 :: u28 :: u29 :: u30 :: u31 :: u32 :: u33 :: u34 :: u35 :: u36 :: u37 :: u38 :: c39 :: c40 :: c41 :: c42 :: c43 :: c44 :: c45 :: c46 :: c47 :: c48 :: c49 :: c50 :: c51 :: c52 :: c53 :: c54 :: c55 :: c56 :: c57 :: c58 :: c59 :: c60 :: c61 :: c62 :: c63 :: c64 :: c65 :: c66 :: c67 :: c68 :: []), []⟩ W)
  (hexit : ∀ (W : World) (x7 u4 u5 u24 u25 u26 u27 u28 u29 u30 u31 u32 u33 u34 u35 u36 u37 u38 : Value), Hid (Below w.heap.size w W) → Hid (4 ≤ b.length ∧ headE (wantB k) b = 0) → Q0 (.exit 0) ⟨List.toArray (c0 :: .string ⟨b.toArray⟩ :: c2 :: c3 :: u4 :: u5 :: .string ⟨(wantB k).toArray⟩ :: x7 :: c8 :: c9 :: c10 :: c11 :: c12 :: c13 :: c14 :: c15 :: c16 :: c17 :: c18 :: c19 :: c20 :: c21 :: c22 :: c23 :: u24 :: u25 :: u26 :: u27 :: u28 :: u29 :: u30 :: u31 :: u32 :: u33 :: u34 :: u35 :: u36 :: u37 :: u38 :: c39 :: c40 :: c41 :: c42 :: c43 :: c44 :: c45 :: c46 :: c47 :: c48 :: c49 :: c50 :: c51 :: c52 :: c53 :: c54 :: c55 :: c56 :: c57 :: c58 :: c59 :: c60 :: c61 :: c62 :: c63 :: c64 :: c65 :: c66 :: c67 :: c68 :: []), []⟩ W) :
  Code.wp Tryz.prog (.loop (loopOf Tryz.f45 0)) Q0 ⟨List.toArray (c0 :: .string ⟨b.toArray⟩ :: c2 :: c3 :: u4 :: u5 :: .string ⟨(wantB k).toArray⟩ :: .int .i64 (0 : Int) :: c8 :: c9 :: c10 :: c11 :: c12 :: c13 :: c14 :: c15 :: c16 :: c17 :: c18 :: c19 :: c20 :: c21 :: c22 :: c23 :: u24 :: u25 :: u26 :: u27 :: u28 :: u29 :: u30 :: u31 :: u32 :: u33 :: u34 :: u35 :: u36 :: u37 :: u38 :: c39 :: c40 :: c41 :: c42 :: c43 :: c44 :: c45 :: c46 :: c47 :: c48 :: c49 :: c50 :: c51 :: c52 :: c53 :: c54 :: c55 :: c56 :: c57 :: c58 :: c59 :: c60 :: c61 :: c62 :: c63 :: c64 :: c65 :: c66 :: c67 :: c68 :: []), []⟩ W0 := by
 have hz := size_arr b
 obtain ⟨wt, hwt⟩ : ∃ wt, wantB k = wt := ⟨_, rfl⟩
 have hwl : wt.length = 4 := by rw [← hwt]; rfl
 have hzw := size_arr wt
 rw [hwt] at hret hexit ⊢
 clear hwt
 conv => arg 2; arg 1; whnf
 go_loopw [7] (fun iv wr => ∃ i : Nat, i ≤ 4 ∧ iv = .int .i64 (i : Int) ∧ Hid (Below w.heap.size w wr) ∧ Hid (i ≤ b.length ∧ b.take i = wt.take i)) (fun iv _ => 4 - (intOf iv).toNat)
 case atStart => exact ⟨0, Nat.zero_le _, rfl, HB0, Lib.hid ⟨Nat.zero_le _, rfl⟩⟩
 case round =>
  obtain ⟨i, hi, rfl, HB, HI⟩ := hrel
  by_cases hi4 : i < 4
  ·have q0 : decide ((i : Int) < 4) = true := decide_eq_true (by omega)
   by_cases hlt : i < b.length
   ·obtain ⟨y, hy⟩ : ∃ y, b[i]? = some y := ⟨b[i]'hlt, List.getElem?_eq_getElem _⟩
    have hbz : ∀ h, ((⟨b.toArray⟩ : ByteArray)[i]'h) = y := fun h => by
     have h1 := (List.getElem?_eq_some_iff.1 hy).2
     show (b.toArray[i]) = _
     rw [List.getElem_toArray, h1]
    obtain ⟨m, hm⟩ : ∃ m, wt[i]? = some m := ⟨wt[i]'(by omega), List.getElem?_eq_getElem _⟩
    have hmz : ∀ h, ((⟨wt.toArray⟩ : ByteArray)[i]'h) = m := fun h => by
     have h1 := (List.getElem?_eq_some_iff.1 hm).2
     show (wt.toArray[i]) = _
     rw [List.getElem_toArray, h1]
    have HY := Lib.hid hy
    have HMW := Lib.hid hm
    have q1 : decide ((i : Int) ≥ (b.length : Int)) = false := decide_eq_false (by omega)
    have hiw : i < wt.length := by omega
    obtain ⟨Y, hY⟩ : ∃ Y : Int, (y.toNat : Int) = Y := ⟨_, rfl⟩
    obtain ⟨M, hM⟩ : ∃ M : Int, (m.toNat : Int) = M := ⟨_, rfl⟩
    clear hy hm
    by_cases hyx : Y = M
    ·have p5 : (Y != M) = false := by simpa using hyx
     have HN : Hid (i + 1 ≤ b.length ∧ b.take (i + 1) = wt.take (i + 1)) := ⟨by omega, by
      rw [List.take_add_one, List.take_add_one, HI.out.2, HY.out, HMW.out]
      have e : y = m := UInt8.toNat_inj.1 (by omega)
      rw [e]⟩
     clear hret hexit hyx
     go_wp2_with fail
     go_quiet (fail)
     go_wp2_with fail
     go_roundw
     case rel => exact ⟨i + 1, by omega, by go_num, Lib.hid (below_drewN HB.out _), HN⟩
     case measure => simp [intOf]; omega
    ·have p5 : (Y != M) = true := by simpa using hyx
     have HE : Hid ((3 : Int) ≠ 0 ∧ headE wt b = 3) := ⟨by decide, headE_bad _ _ i m y HMW.out HY.out HI.out.2 (fun e => hyx (by rw [← hY, ← hM, e]))⟩
     clear hexit hyx
     go_wp2_with fail
     go_quiet (fail)
     go_wp2_with fail
     exact hret 3 _ _ _ _ _ _ _ _ _ _ _ _ _ _ _ _ _ (Lib.hid (below_drewN HB.out _)) HE
   ·have q1 : decide ((i : Int) ≥ (b.length : Int)) = true := decide_eq_true (by omega)
    have q2 : decide (b.length ≤ i) = true := decide_eq_true (by omega)
    have HE : Hid ((2 : Int) ≠ 0 ∧ headE wt b = 2) := ⟨by decide, headE_short _ _ i (by omega) HI.out.2 (by omega)⟩
    go_wp2_with fail
    exact hret 2 _ _ _ _ _ _ _ _ _ _ _ _ _ _ _ _ _ HB HE
  ·obtain rfl : i = 4 := by omega
   have q0 : decide (((4 : Nat) : Int) < 4) = false := rfl
   have HX : Hid (4 ≤ b.length ∧ headE wt b = 0) := ⟨HI.out.1, headE_ok _ _ (by rw [hwl, HI.out.2, List.take_of_length_le (by omega)])⟩
   go_wp2_with fail
   exact hexit wr _ _ _ _ _ _ _ _ _ _ _ _ _ _ _ _ _ _ HB HX
theorem ropen_any (w : World) (b : List UInt8) (hb : b.length ≤ 137438950000) (k : Nat) (hk : k ≤ 255) :
  Calls Tryz.prog 45 #[.int .i64 k, .string ⟨b.toArray⟩] w fun e w' => e = .returned (.tuple #[.string ⟨(openB k b).1.toArray⟩, .int .i64 (openB k b).2]) ∧ Below w.heap.size w w' := by
 have hk0 : decide ((k : Int) < 0) = false := decide_eq_false (by omega)
 have hk1 : decide ((k : Int) > 255) = false := decide_eq_false (by omega)
 have hw8 : IntKind.u8.wrap (k : Int) = (k : Int) := by rw [IntKind.wrap_u8]; omega
 have hcv := conv_one w (k : Int)
 have e1 : strOfNums [(k : Int)] = ⟨[UInt8.ofNat k].toArray⟩ := by simp [strOfNums]
 rw [e1] at hcv
 have hc1 := cat_arr [103, 108, 115] [UInt8.ofNat k] (by simp)
 have hwe : [103, 108, 115] ++ [UInt8.ofNat k] = wantB k := rfl
 rw [hwe] at hc1
 generalize hkb : UInt8.ofNat k = kb at hcv hc1
 clear e1 hwe
 go_enter Tryz.func45, Tryz.ntmps45
 go_wp2_with fail
 refine ropen_o w _ (Lib.hid (bnew (brefl w) _)) b (by omega) k hk _ _ _ _ _ _ _ _ _ _ _ _ _ _ _ _ _ _ _ _ _ _ _ _ _ _ _ _ _ _ _ _ _ _ _ _ _ _ _ _ _ _ _ _ _ _ _ _ _ _ _ _ _ _ _ _ _ _ _ _ _ _ _ _ _ _ _ (fun c a a' w hd h => by cases a; cases a'; cases hd; exact h) ?_ ?_
 ·intro z W x7 u24 u25 u26 u27 u28 u29 u30 u31 u32 u33 u34 u35 u36 u37 u38 HB HE
  have HO : Hid (openB k b = ([], z)) := by
   show _ = _
   unfold openB
   rw [if_neg (by rw [HE.out.2]; exact HE.out.1), HE.out.2]
  go_wp2_with fail
  go_ret2
  exact ⟨by rw [HO.out]; rfl, HB.out⟩
 ·intro W x7 u4 u5 u24 u25 u26 u27 u28 u29 u30 u31 u32 u33 u34 u35 u36 u37 u38 HB HE
  obtain ⟨hb4, he⟩ := HE.out
  have hz := size_arr b
  have e4 : (⟨b.toArray⟩ : ByteArray).extract 4 b.length = ⟨(b.drop 4).toArray⟩ := by
   apply ByteArray.ext
   apply Array.ext'
   simp [ByteArray.data_extract, List.take_of_length_le]
  have hdl : (b.drop 4).length = b.length - 4 := List.length_drop ..
  have HS := Lib.hid (readBlk_short (b.drop 4))
  have HO : Hid (openB k b = if (readBlk (b.drop 4)).2.1 = 0 then
   if (readBlk (b.drop 4)).2.2.length < 4 then ([], 2) else if 4 < (readBlk (b.drop 4)).2.2.length then ([], 5) else if sealB k (readBlk (b.drop 4)).1 = b then ((readBlk (b.drop 4)).1, 0) else ([], 6)
  else ([], (readBlk (b.drop 4)).2.1)) := by
   show _ = _
   unfold openB
   rw [if_pos he]
  have HBL := Lib.hid (rblk_any W (b.drop 4) (by omega))
  clear he HE
  generalize b.drop 4 = u at *
  generalize hs : (readBlk u).1 = s at *
  generalize hx : (readBlk u).2.1 = x at *
  generalize hr : (readBlk u).2.2 = r at *
  clear hs hx hr
  go_wp2_with fail
  refine HBL.out.mono ?_
  rintro e w2 ⟨⟨q, rfl, hq⟩, hb2⟩
  have HB2 : Hid (Below w.heap.size w w2) := bcall HB.out hb2
  have HQ := Lib.hid hq
  clear hq hb2 HBL
  by_cases hx0 : x = 0
  ·have q0 : (x != 0) = false := by simpa using hx0
   have hsl : s.length ≤ u.length := HS.out.resolve_right (fun h => h hx0)
   obtain ⟨hq0, hq1, hq2⟩ := HQ.out hx0
   obtain ⟨Q, rfl⟩ := Int.eq_ofNat_of_zero_le hq0
   rw [Int.toNat_natCast] at hq2
   have hrl : r.length = u.length - Q := by rw [hq2, List.length_drop]
   have w1 : IntKind.i64.wrap (8 + (Q : Int)) = 8 + (Q : Int) := IntWalk.i64_in _ (by omega)
   have HX := Lib.hid hx0
   have HSE := Lib.hid (fun W => rseal_any W k hk s (by omega))
   by_cases h4 : r.length < 4
   ·have q1 : decide ((b.length : Int) < 8 + (Q : Int)) = true := decide_eq_true (by omega)
    have HR : Hid (openB k b = ([], 2)) := by show _ = _; rw [HO.out, if_pos hx0, if_pos h4]
    clear HO hx0 h4 hq0 hq1 hq2 hrl
    go_wp2_with fail
    go_ret2
    exact ⟨by rw [HR.out]; rfl, HB2.out⟩
   ·have q1 : decide ((b.length : Int) < 8 + (Q : Int)) = false := decide_eq_false (by omega)
    by_cases h5 : 4 < r.length
    ·have q2 : decide ((b.length : Int) > 8 + (Q : Int)) = true := decide_eq_true (by omega)
     have HR : Hid (openB k b = ([], 5)) := by show _ = _; rw [HO.out, if_pos hx0, if_neg h4, if_pos h5]
     clear HO hx0 h4 h5 hq0 hq1 hq2 hrl
     go_wp2_with fail
     go_ret2
     exact ⟨by rw [HR.out]; rfl, HB2.out⟩
    ·have q2 : decide ((b.length : Int) > 8 + (Q : Int)) = false := decide_eq_false (by omega)
     have HO2 : Hid (openB k b = if sealB k s = b then (s, 0) else ([], 6)) := by show _ = _; rw [HO.out, if_pos hx0, if_neg h4, if_neg h5]
     obtain ⟨T, hT⟩ : ∃ T, sealB k s = T := ⟨_, rfl⟩
     rw [hT] at HO2 HSE
     clear HO hx0 h4 h5 hq0 hq1 hq2 hrl hT
     by_cases hTb : T = b
     ·have HR : Hid (openB k b = (s, 0)) := by show _ = _; rw [HO2.out, if_pos hTb]
      have q3 : (T == b) = true := by simpa using hTb
      clear HO2 hTb
      go_wp2_with fail
      refine (HSE.out _).mono ?_
      rintro e w3 ⟨rfl, hb3⟩
      have HB3 : Hid (Below w.heap.size w w3) := bcall HB2.out hb3
      clear hb3
      go_wp2_with fail
      go_ret2
      exact ⟨by rw [HR.out]; rfl, HB3.out⟩
     ·have HR : Hid (openB k b = ([], 6)) := by show _ = _; rw [HO2.out, if_neg hTb]
      have q3 : (T == b) = false := by simpa using hTb
      clear HO2 hTb
      go_wp2_with fail
      refine (HSE.out _).mono ?_
      rintro e w3 ⟨rfl, hb3⟩
      have HB3 : Hid (Below w.heap.size w w3) := bcall HB2.out hb3
      clear hb3
      go_wp2_with fail
      go_ret2
      exact ⟨by rw [HR.out]; rfl, HB3.out⟩
  ·have q0 : (x != 0) = true := by simpa using hx0
   have HR : Hid (openB k b = ([], x)) := by show _ = _; rw [HO.out, if_neg hx0]
   clear HO hx0
   go_wp2_with fail
   go_ret2
   exact ⟨by rw [HR.out]; rfl, HB2.out⟩
end Go.Proofs.YtkhemhiifhggmaaGreatDoor
