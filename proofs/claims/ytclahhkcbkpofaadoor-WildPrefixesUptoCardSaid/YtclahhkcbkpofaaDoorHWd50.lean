/- The walk of WildPrefixes. -/
import Derived.Test.YtclahhkcbkpofaaDoorHWd49
import Derived.Test.YtclahhkcbkpofaaDoorHWd47
namespace Go.Proofs.YtclahhkcbkpofaaDoor
open Go.RowKit
open Sp
set_option linter.unusedVariables false
theorem upto_one {H : Type} {a : List UInt8} {d : DataW H} (hk : Rows.uptoSmall H ([.lit (.string a), d] ++ []) = true) : a.length ≤ 1048576 := by
  have h := of_decide_eq_true hk
  simp only [List.append_nil, Rows.uptoBulkAll, Rows.uptoBulk] at h
  omega
set_option maxRecDepth 100000 in
set_option maxHeartbeats 8000000 in
theorem wprefixes_walk (w : World) (t : List UInt8) (ht : t.length ≤ 1048576) (At : Option Addr) (nt ct : Nat) (y : Nat → ByteArray) (hy : TextsB w At nt ct y) (hT : Tab w) :
    Calls Tryd.prog 8 #[.string ⟨t.toArray⟩, .slice At nt ct] w fun e w' => e = .returned (.bool true) ∧ Below w.heap.size w w' := by
  have HL := Lib.hid (prefix_any w t (by omega) hT)
  have HR := Lib.hid (fun W => rletters_any W t [] (by omega) (by simp))
  have HT := Lib.hid hT
  have HY := Lib.hid hy
  have hnt : nt ≤ 1125899906842624 := by
    have := hy.ok.rb
    unfold reachBytes at this
    omega
  clear hT ht hy
  go_enter Tryd.func8, Tryd.ntmps8
  go_wp2_with fail
  refine HL.out.mono ?_
  rintro e w1 ⟨hb1, hcase1⟩
  have HB1 := Lib.hid hb1
  clear hb1 HL
  rcases hcase1 with ⟨A1, c1, hs, l1, rfl, hd1, hl1, hst1, hmq⟩ | ⟨l1, z1, rfl, hz1, hd1, hl1⟩ | ⟨rfl, hno1⟩
  · have HS1 := Lib.hid hst1
    have HD1 := Lib.hid hd1
    have HE1 := Lib.hid hl1
    have HMQ := Lib.hid hmq
    have HCK : Hid (checkE (hs.map (·.d)) = 0) := (good_iff _).2 hmq.2.1
    obtain ⟨nx, hnx⟩ : ∃ k, hs.length = k := ⟨_, rfl⟩
    rw [hnx] at HS1 ⊢
    have H63 : Hid (∀ c ∈ l1.map foldI, c ≠ 63) := fun c hc => (let_no42 (all_letter (lets_zero hl1).2.2 hc)).2
    clear hst1 hd1 hl1 hmq hnx
    go_wp2_with fail
    refine (HR.out w1).mono ?_
    rintro e w2 ⟨hb2, hcase2⟩
    have HB2 := Lib.hid hb2
    clear hb2 HR
    rcases hcase2 with ⟨v2, l2, rfl, hd2, hl2, ho2⟩ | ⟨l2, z2, rfl, hz2, hd2, hl2⟩ | ⟨rfl, hno2⟩
    · obtain rfl := HD1.out.inj hd2
      obtain ⟨A2, c2, rfl, hs2⟩ := row_sl ho2
      obtain ⟨n2, hn2⟩ : ∃ k, l1.length = k := ⟨_, rfl⟩
      have hn16 : n2 ≤ 16 := by have := (lets_zero hl2).1; rw [List.length_map] at this; omega
      rw [hn2] at hs2 ⊢
      have HS2 := Lib.hid hs2
      have HB12 := Lib.hid (bcall HB1.out HB2.out)
      clear hs2 hd2 hl2 ho2 hn2
      go_wp2_with fail
      refine (wawake_any w2 (HT.out.below HB12.out)).mono ?_
      rintro e w3 ⟨rfl, hb3⟩
      have HB23 := Lib.hid (bcall HB2.out hb3)
      have HB3 := Lib.hid (bcall HB12.out hb3)
      have HX3 := Lib.hid (HS1.out.keep HB23.out HB23.out.size)
      have HP3 := Lib.hid ((HS2.out.below hb3).more hb3.size)
      clear hb3 HS1 HS2
      go_wp2_with fail
      go_loopw [9] (fun iv wr => ∃ i : Nat, i ≤ 20 ∧ iv = .int .i64 (i : Int) ∧ Hid (Below w3.heap.size w3 wr)) (fun iv _ => 20 - (intOf iv).toNat)
      case atStart => exact ⟨0, Nat.zero_le _, rfl, brefl w3⟩
      case round =>
        obtain ⟨i, hi, rfl, HB⟩ := hrel
        have HW := Lib.hid (bcall HB3.out HB.out)
        by_cases hend : i < nt ∧ i < 20
        · obtain ⟨hm, h20⟩ := hend
          have q0 : decide ((i : Int) < (nt : Int)) = true := decide_eq_true (by omega)
          have q01 : decide (i < nt) = true := decide_eq_true hm
          have q1 : decide ((i : Int) < 20) = true := decide_eq_true (by omega)
          have q11 : decide (i < 20) = true := decide_eq_true h20
          obtain ⟨b, off, u, rfl, hbw, hul, d0⟩ := HY.out.get HW.out hm
          have HD0 : Hid (∀ W, Below wr.heap.size wr W → W.cell? ⟨b, off + i, none⟩ = some (.string ⟨u.toArray⟩) ∧ b < W.heap.size) := fun W hW => ⟨(hW.cell (p := ⟨b, off + i, none⟩) hbw).trans d0, Nat.lt_of_lt_of_le hbw hW.size⟩
          go_wp2_with fail
          refine (rdecode_any wr u (by omega)).mono ?_
          rintro e w4 ⟨hb4, ⟨v4, l4, rfl, hd4, ho4⟩ | ⟨rfl, hno4⟩⟩
          · obtain ⟨A4, c4, rfl, hs4⟩ := row_sl ho4
            obtain ⟨n4, hn4⟩ : ∃ k, l4.length = k := ⟨_, rfl⟩
            have hn4b : n4 ≤ 1048576 := by
              have h1 := hd4.len
              have h2 : (bytesN u).length = u.length := List.length_map ..
              omega
            rw [hn4] at hs4 ⊢
            obtain ⟨d1, hbw4⟩ := HD0.out w4 hb4
            have HB4 := Lib.hid (bcall HB.out hb4)
            have HS4 := Lib.hid hs4
            obtain ⟨p, hp⟩ : ∃ p, decide (l1.map foldI <+: l4) = p := ⟨_, rfl⟩
            have HTB : Hid (takesB (hs.map (·.d)) u = p) := (made_begins HMQ.out H63.out hd4).trans hp
            have HPB := Lib.hid hp
            clear hb4 hd4 ho4 hs4 hn4 hp d0 hbw
            go_wp2_with fail
            refine (accepts_any w4 w3.heap.size HB4.out.size A1 nx c1 hs (HX3.out.keep HB4.out (Nat.le_refl _)) u (by omega)).mono ?_
            rintro e w5 ⟨rfl, hb5⟩
            rw [HTB.out]
            have HB5 := Lib.hid (bcall HB4.out hb5)
            have HS5 := Lib.hid ((HS4.out.below hb5).more hb5.size)
            have HP5 := Lib.hid ((HP3.out.below HB5.out).more HB5.out.size)
            clear hb5 HTB
            go_wp2_with fail
            refine (begins_any w5 w5.heap.size (Nat.le_refl _) A4 A2 n4 n2 c4 c2 l4 (l1.map foldI) HS5.out HP5.out (by omega) (by omega)).mono ?_
            rintro e w6 ⟨rfl, hb6⟩
            rw [HPB.out]
            have HB6 := Lib.hid (bcall HB5.out hb6)
            have hpp : (p != p) = false := by simp
            clear hb6 HPB HP5 HS5 HS4
            go_wp2_with fail
            go_roundw
            case rel => exact ⟨i + 1, by omega, by go_num, HB6⟩
            case measure => simp [intOf]; omega
          · have HB4 := Lib.hid (bcall HB.out hb4)
            clear hb4 hno4 d0
            go_wp2_with fail
            go_roundw
            case rel => exact ⟨i + 1, by omega, by go_num, HB4⟩
            case measure => simp [intOf]; omega
        · have HCH : Hid (∀ W, W = wr → Calls Tryd.prog 28 #[.slice A1 nx c1] W fun e w' => e = .returned (.int .i64 0) ∧ Below w.heap.size w w') := by
            rintro W rfl
            refine (dcheck_any W w3.heap.size HB.out.size A1 nx c1 hs (HX3.out.keep HB.out (Nat.le_refl _))).mono ?_
            rintro e w' ⟨rfl, hb⟩
            exact ⟨by rw [HCK.out], bcall HW.out hb⟩
          by_cases hm : i < nt
          · have q0 : decide ((i : Int) < (nt : Int)) = true := decide_eq_true (by omega)
            have q01 : decide (i < nt) = true := decide_eq_true hm
            have q1 : decide ((i : Int) < 20) = false := decide_eq_false (by omega)
            have q11 : decide (i < 20) = false := decide_eq_false (by omega)
            clear hend
            go_wp2_with fail
            refine (HCH.out _ rfl).mono ?_
            rintro e w5 ⟨rfl, hb5⟩
            go_wp2_with fail
            go_ret
            exact ⟨rfl, hb5⟩
          · have q0 : decide ((i : Int) < (nt : Int)) = false := decide_eq_false (by omega)
            have q01 : decide (i < nt) = false := decide_eq_false hm
            clear hend
            go_wp2_with fail
            refine (HCH.out _ rfl).mono ?_
            rintro e w5 ⟨rfl, hb5⟩
            go_wp2_with fail
            go_ret
            exact ⟨rfl, hb5⟩
    · obtain rfl := HD1.out.inj hd2
      exact absurd (hl2.symm.trans HE1.out) hz2
    · exact absurd HD1.out (hno2 l1)
  · have HD1 := Lib.hid hd1
    have HE1 := Lib.hid hl1
    have hz := Lib.hid hz1
    have hzb : (z1 != 0) = true := by rw [bne_iff_ne]; exact hz1
    have hzc : (z1 != z1) = false := by simp
    have hzd : (z1 == z1) = true := by simp
    clear hd1 hl1 hz1
    go_wp2_with fail
    refine (HR.out w1).mono ?_
    rintro e w2 ⟨hb2, hcase2⟩
    have HB2 := Lib.hid hb2
    clear hb2 HR
    rcases hcase2 with ⟨v2, l2, rfl, hd2, hl2, ho2⟩ | ⟨l2, z2, rfl, hz2, hd2, hl2⟩ | ⟨rfl, hno2⟩
    · obtain rfl := HD1.out.inj hd2
      exact absurd (HE1.out.symm.trans hl2) hz.out
    · obtain rfl := HD1.out.inj hd2
      obtain rfl : z1 = z2 := HE1.out.symm.trans hl2
      have HB12 := Lib.hid (bcall HB1.out HB2.out)
      clear hz2 hd2 hl2
      go_wp2_with fail
      refine (wawake_any w2 (HT.out.below HB12.out)).mono ?_
      rintro e w3 ⟨rfl, hb3⟩
      have HB3 := Lib.hid (bcall HB12.out hb3)
      clear hb3
      go_wp2_with fail
      refine (wawake_any w3 (HT.out.below HB3.out)).mono ?_
      rintro e w4 ⟨rfl, hb4⟩
      have HB4 := Lib.hid (bcall HB3.out hb4)
      clear hb4
      go_wp2_with fail
      go_ret
      exact ⟨rfl, HB4.out⟩
    · exact absurd HD1.out (hno2 l1)
  · have HNO := Lib.hid hno1
    clear hno1
    go_wp2_with fail
    refine (HR.out w1).mono ?_
    rintro e w2 ⟨hb2, hcase2⟩
    have HB2 := Lib.hid hb2
    clear hb2 HR
    rcases hcase2 with ⟨v2, l2, rfl, hd2, hl2, ho2⟩ | ⟨l2, z2, rfl, hz2, hd2, hl2⟩ | ⟨rfl, hno2⟩
    · exact absurd hd2 (HNO.out l2)
    · exact absurd hd2 (HNO.out l2)
    · have HB12 := Lib.hid (bcall HB1.out HB2.out)
      clear hno2
      go_wp2_with fail
      refine (wawake_any w2 (HT.out.below HB12.out)).mono ?_
      rintro e w3 ⟨rfl, hb3⟩
      have HB3 := Lib.hid (bcall HB12.out hb3)
      clear hb3
      go_wp2_with fail
      refine (wawake_any w3 (HT.out.below HB3.out)).mono ?_
      rintro e w4 ⟨rfl, hb4⟩
      have HB4 := Lib.hid (bcall HB3.out hb4)
      clear hb4
      go_wp2_with fail
      go_ret
      exact ⟨rfl, HB4.out⟩
theorem wprefixes_walkc (w : World) {H : Type} {d : DataW H} (s : ByteArray) (_ : s.size ≤ maxLen) (_ : s.data.toList.length ≤ reachBytes) (At : Option Addr) (nt ct : Nat) (y : Nat → ByteArray) (hy : TextsB w At nt ct y) (hk : Rows.uptoSmall H ([.lit (.string s.data.toList), d] ++ []) = true) (hT : Tab w) :
    Calls Tryd.prog 8 #[.string s, .slice At nt ct] w fun e w' => e = .returned (.bool true) ∧ Below w.heap.size w w' := wprefixes_walk w s.data.toList (upto_one hk) At nt ct y hy hT
end Go.Proofs.YtclahhkcbkpofaaDoor
/- The reference's Encode of characters. -/
namespace Go.Proofs.YtclahhkcbkpofaaDoor
open Go.RowKit
open Sp
set_option linter.unusedVariables false
theorem mk_add (l m : List UInt8) : (⟨l.toArray⟩ : ByteArray) ++ ⟨m.toArray⟩ = ⟨(l ++ m).toArray⟩ := by
  apply ByteArray.ext
  simp [ByteArray.data_append]
theorem mk_size (l : List UInt8) : (⟨l.toArray⟩ : ByteArray).size = l.length := by show l.toArray.size = _; simp
theorem mk_cat (l m : List UInt8) (h : l.length + m.length ≤ 4611686018427) (w : World) : (Op.stringOp .add (⟨l.toArray⟩ : ByteArray) ⟨m.toArray⟩).run Tryd.prog w = .ok (.string ⟨(l ++ m).toArray⟩) w := by
  rw [← mk_add]
  exact run_string_add_sum w _ _ (by rw [mk_size, mk_size]; omega)
theorem encs_take {l : List Int} {j : Nat} {c : Int} (h : l[j]? = some c) : encs (l.take (j + 1)) = encs (l.take j) ++ encN c := by
  obtain ⟨hj, rfl⟩ := List.getElem?_eq_some_iff.1 h
  rw [List.take_succ_eq_append_getElem hj, encs_app, encs_one]
set_option maxRecDepth 100000 in
set_option maxHeartbeats 8000000 in
theorem rencode_any (w : World) (B : Nat) (hB : B ≤ w.heap.size) (A : Option Addr) (n cp : Nat) (l : List Int) (hs : Sl w B 1 A n (l.map (.int .i64))) (hn : n ≤ 1000) (hw : ∀ c ∈ l, wholeB c = true) :
    Calls Tryd.prog 32 #[.slice A n cp] w fun e w' => (∃ t : List UInt8, e = .returned (.tuple #[.string ⟨t.toArray⟩, .int .i64 0]) ∧ Dec (bytesN t) l ∧ t.length ≤ 4 * n) ∧ Below w.heap.size w w' := by
  have hln : l.length = n := by have := hs.1; simpa using this
  have HS := Lib.hid hs
  have HL := Lib.hid hln
  have HWH := Lib.hid hw
  clear hs hw
  go_enter Tryd.func32, Tryd.ntmps32
  go_wp2_with fail
  go_loopw [4, 5] (fun sv iv wr => ∃ (j : Nat) (u : List UInt8), j ≤ n ∧ iv = .int .i64 (j : Int) ∧ sv = .string ⟨u.toArray⟩ ∧ Hid (bytesN u = encs (l.take j)) ∧ u.length ≤ 4 * j ∧ Hid (Below w.heap.size w wr)) (fun _ iv _ => n - (intOf iv).toNat)
  case atStart => exact ⟨0, [], Nat.zero_le _, rfl, rfl, Lib.hid rfl, Nat.le_refl _, brefl w⟩
  case round =>
    obtain ⟨j, u, hj, rfl, rfl, HU, hul, HB⟩ := hrel
    by_cases hjn : j < n
    · obtain ⟨c, hc⟩ : ∃ c, l[j]? = some c := ⟨l[j]'(by omega), List.getElem?_eq_getElem _⟩
      have hwc := HWH.out c (List.mem_of_getElem? hc)
      obtain ⟨b0, off, rfl, hb0, hcl0⟩ := HS.out.at_ hjn
      have HCE : Hid (∀ W, Below w.heap.size w W → W.cell? ⟨b0, off + j, none⟩ = some (.int .i64 c) ∧ b0 < W.heap.size) := fun W hW => ⟨(hW.cell (p := ⟨b0, off + j, none⟩) (by show b0 < _; omega)).trans (hcl0 j (.int .i64 c) (by rw [List.getElem?_map, hc]; rfl)), Nat.lt_of_lt_of_le hb0 (Nat.le_trans hB hW.size)⟩
      obtain ⟨r0, hbw⟩ := HCE.out wr HB.out
      have hq : decide (j < n) = true := decide_eq_true hjn
      obtain ⟨tc, htc1, htc2, htc3, _⟩ := chars_bytes hwc
      have HONE := Lib.hid (one_any c hwc)
      rw [htc1] at HONE
      have HWC := Lib.hid (rwhole_any c)
      rw [hwc] at HWC
      have HET := Lib.hid (encs_take hc)
      obtain ⟨u2, hu2⟩ : ∃ u2, u ++ tc = u2 := ⟨_, rfl⟩
      have hcat := fun W => mk_cat u tc (by omega) W
      rw [hu2] at hcat
      have HU2 : Hid (bytesN u2 = encs (l.take (j + 1))) := by show _ = _; rw [← hu2, bytesN_app, HU.out, htc2, HET.out]
      have hu2l : u2.length ≤ 4 * (j + 1) := by rw [← hu2, List.length_append]; omega
      clear hc hcl0 htc1 htc2 hwc hu2 HET
      go_wp2_with fail
      refine (HWC.out _).mono ?_
      rintro e w2 ⟨rfl, rfl⟩
      go_wp2_with fail
      refine (HONE.out _).mono ?_
      rintro e w3 ⟨rfl, hb3⟩
      have HB3 := Lib.hid (bcall HB.out hb3)
      clear hb3
      go_wp2_with fail
      go_roundw
      case rel => exact ⟨j + 1, u2, by omega, by go_num, rfl, HU2, hu2l, HB3⟩
      case measure => simp [intOf]; omega
    · obtain rfl : j = n := by omega
      have hq : decide (j < j) = false := decide_eq_false hjn
      have HPOST : Hid (∃ t : List UInt8, Ending.returned (.tuple #[.string ⟨u.toArray⟩, .int .i64 0]) = .returned (.tuple #[.string ⟨t.toArray⟩, .int .i64 0]) ∧ Dec (bytesN t) l ∧ t.length ≤ 4 * j) := ⟨u, rfl, ⟨HWH.out, by have := HU.out; rwa [← HL.out, List.take_length] at this⟩, hul⟩
      go_wp2_with fail
      go_ret2
      exact ⟨HPOST.out, HB.out⟩
end Go.Proofs.YtclahhkcbkpofaaDoor
/- The walk of WildSame. -/
namespace Go.Proofs.YtclahhkcbkpofaaDoor
open Go.RowKit
open Sp
set_option linter.unusedVariables false
theorem lets_more {f : List Int} (h : letsE f [] = 0) : letsE f [42, 63] = 0 := by
  obtain ⟨h1, h2, h3⟩ := lets_zero h
  unfold letsE
  rw [if_neg (by omega), if_neg (by omega), if_pos]
  rw [List.all_eq_true] at h3 ⊢
  intro c hc
  have := ok_letter (h3 c hc)
  unfold okC
  rw [this]
  rfl
theorem lets_star {f : List Int} (h : letsE f [] = 0) (hl : f.length ≤ 15) : letsE (f ++ [42]) [42, 63] = 0 := by
  obtain ⟨h1, h2, h3⟩ := lets_zero h
  unfold letsE
  rw [if_neg (by rw [List.length_append]; simp; omega), if_neg (by rw [List.length_append]; simp), if_pos]
  rw [List.all_eq_true] at h3 ⊢
  intro c hc
  rcases List.mem_append.1 hc with hc | hc
  · have := ok_letter (h3 c hc)
    unfold okC
    rw [this]
    rfl
  · rw [List.mem_singleton.1 hc]
    decide
theorem fold_star (l : List Int) : (l ++ [42]).map foldI = l.map foldI ++ [42] := by
  rw [List.map_append]
  rfl
theorem dec_more {t : List UInt8} {l : List Int} (h : Dec (bytesN t) l) : Dec (bytesN (t ++ [42])) (l ++ [42]) := by
  rw [bytesN_app]
  exact h.more (r := []) (c := 42) (by decide)
theorem same_text {u t : List UInt8} {lu f : List Int} (hu : Dec (bytesN u) lu) (ht : Dec (bytesN t) f) : (u == t) = decide (lu = f) := by
  rw [Bool.eq_iff_iff, beq_iff_eq, decide_eq_true_eq]
  constructor
  · rintro rfl
    exact hu.inj ht
  · rintro rfl
    exact bytesN_inj (hu.2.trans ht.2.symm)
theorem star_all {D : List St} (h : MadeQ [] true D) {u : List UInt8} {lu : List Int} (hu : Dec (bytesN u) lu) : takesB D u = true := (made_star h hu).2 trivial
theorem star_pat : letsE (([42] : List Int).map foldI) [42, 63] = 0 := by decide
set_option maxRecDepth 100000 in
set_option maxHeartbeats 8000000 in
theorem wsame_walk (w : World) (t u : List UInt8) (ht : t.length ≤ 1048576) (hu : u.length ≤ 1048576) (hT : Tab w) :
    Calls Tryd.prog 9 #[.string ⟨t.toArray⟩, .string ⟨u.toArray⟩] w fun e w' => e = .returned (.bool true) ∧ Below w.heap.size w w' := by
  have HL := Lib.hid (letters_any w t [] (by omega) (by simp))
  have HT := Lib.hid hT
  obtain ⟨ts, hts⟩ : ∃ x, t ++ [42] = x := ⟨_, rfl⟩
  have hcat := fun W => mk_cat t [42] (by simp; omega) W
  rw [hts] at hcat
  have HTS := Lib.hid hts
  have htsl : ts.length ≤ 1048577 := by rw [← hts, List.length_append]; simp; omega
  clear hT hts
  go_enter Tryd.func9, Tryd.ntmps9
  go_wp2_with fail
  refine HL.out.mono ?_
  rintro e w1 ⟨hb1, hcase1⟩
  have HB1 := Lib.hid hb1
  clear hb1 HL
  rcases hcase1 with ⟨v1, l, rfl, hd1, hl1, ho1⟩ | ⟨l, z, rfl, hz1, hd1, hl1⟩ | ⟨rfl, hno1⟩
  · obtain ⟨A1, c1, rfl, hs1⟩ := row_sl ho1
    obtain ⟨f, hf⟩ : ∃ f, l.map foldI = f := ⟨_, rfl⟩
    have hfl : f.length = l.length := by rw [← hf, List.length_map]
    have hfw : ∀ c ∈ f, wholeB c = true := fun c hc => by
      rw [← hf] at hc
      obtain ⟨x, hx, rfl⟩ := List.mem_map.1 hc
      exact fold_whole (hd1.1 x hx)
    have hll : ∀ c ∈ l.map foldI, letB c = true := fun c hc => all_letter (lets_zero hl1).2.2 hc
    rw [hf] at hs1 hl1 hll
    obtain ⟨n, hn⟩ : ∃ n, l.length = n := ⟨_, rfl⟩
    rw [hn] at hs1 hfl ⊢
    have HF := Lib.hid hf
    have HS1 := Lib.hid hs1
    have HD := Lib.hid hd1
    have HE := Lib.hid hl1
    have HFL := Lib.hid hfl
    have HFW := Lib.hid hfw
    have H4 := Lib.hid (fun c hc => let_no42 (hll c hc))
    have hn16 : n ≤ 16 := by have := (lets_zero hl1).1; omega
    clear hs1 hd1 hl1 ho1 hn hf hfl hfw hll
    go_wp2_with fail
    refine (wawake_any w1 (HT.out.below HB1.out)).mono ?_
    rintro e w2 ⟨rfl, hb2⟩
    have HB2 := Lib.hid (bcall HB1.out hb2)
    have HS2 := Lib.hid ((HS1.out.below hb2).more hb2.size)
    clear hb2 HS1
    by_cases h15 : 15 < n
    · have q1 : decide ((n : Int) > 15) = true := decide_eq_true (by omega)
      have q2 : decide (15 < n) = true := decide_eq_true h15
      go_wp2_with fail
      refine (wawake_any w2 (HT.out.below HB2.out)).mono ?_
      rintro e w3 ⟨rfl, hb3⟩
      have HB3 := Lib.hid (bcall HB2.out hb3)
      clear hb3
      go_wp2_with fail
      go_ret
      exact ⟨rfl, HB3.out⟩
    · have q1 : decide ((n : Int) > 15) = false := decide_eq_false (by omega)
      have q2 : decide (15 < n) = false := decide_eq_false h15
      have HWA := Lib.hid (fun W (hW : Tab W) => wild_any W t (by omega) hW l HD.out (by rw [HF.out]; exact lets_more HE.out) f false (by rw [HF.out]; simp) (fun c hc => (H4.out c hc).1) 0 fun _ c _ h => (H4.out c (List.mem_of_getElem? h)).2)
      have HWB := Lib.hid (fun W (hW : Tab W) => wild_any W ts (by omega) hW (l ++ [42]) (by rw [← HTS.out]; exact dec_more HD.out) (by rw [fold_star, HF.out]; exact lets_star HE.out (by rw [HFL.out]; omega)) f true (by rw [fold_star, HF.out]; simp) (fun c hc => (H4.out c hc).1) 0 fun _ c _ h => (H4.out c (List.mem_of_getElem? h)).2)
      have HWC := Lib.hid (fun W (hW : Tab W) => prefix_any W t (by omega) hW)
      have HWD := Lib.hid (fun W (hW : Tab W) => wild_any W [42] (by simp) hW [42] dec_star star_pat [] true rfl (fun c hc => absurd hc List.not_mem_nil) 0 fun _ c _ h => by simp at h)
      have HDU := Lib.hid (fun W => rdecode_any W u (by omega))
      clear h15
      go_wp2_with fail
      refine (HWA.out w2 (HT.out.below HB2.out)).mono ?_
      rintro e w3 ⟨hb3, Aa, ca, ha, rfl, hsa, hma⟩
      have HB3 := Lib.hid (bcall HB2.out hb3)
      have HS3 := Lib.hid ((HS2.out.below hb3).more hb3.size)
      have HXA := Lib.hid hsa
      have HMA := Lib.hid hma
      obtain ⟨na, hna⟩ : ∃ k, ha.length = k := ⟨_, rfl⟩
      rw [hna] at HXA ⊢
      clear hb3 hsa hma hna HS2 HWA
      go_wp2_with fail
      refine (HWB.out w3 (HT.out.below HB3.out)).mono ?_
      rintro e w4 ⟨hb4, Ab, cb, hb, rfl, hsb, hmb⟩
      have HB4 := Lib.hid (bcall HB3.out hb4)
      have HS4 := Lib.hid ((HS3.out.below hb4).more hb4.size)
      have HXA4 := Lib.hid (HXA.out.keep hb4 hb4.size)
      have HXB := Lib.hid hsb
      have HMB := Lib.hid hmb
      obtain ⟨nb, hnb⟩ : ∃ k, hb.length = k := ⟨_, rfl⟩
      rw [hnb] at HXB ⊢
      clear hb4 hsb hmb hnb HS3 HWB HXA
      go_wp2_with fail
      refine (HWC.out w4 (HT.out.below HB4.out)).mono ?_
      rintro e w5 ⟨hb5, hcase5⟩
      rcases hcase5 with ⟨Ac, cc, hc, l5, rfl, hd5, hl5, hsc, hmc⟩ | ⟨l5, z5, rfl, hz5, hd5, hl5⟩ | ⟨rfl, hno5⟩
      · obtain rfl := HD.out.inj hd5
        rw [HF.out] at hmc
        have HB5 := Lib.hid (bcall HB4.out hb5)
        have HS5 := Lib.hid ((HS4.out.below hb5).more hb5.size)
        have HXA5 := Lib.hid (HXA4.out.keep hb5 hb5.size)
        have HXB5 := Lib.hid (HXB.out.keep hb5 hb5.size)
        have HXC := Lib.hid hsc
        have HMC := Lib.hid hmc
        obtain ⟨nc, hnc⟩ : ∃ k, hc.length = k := ⟨_, rfl⟩
        rw [hnc] at HXC ⊢
        clear hb5 hsc hmc hnc HS4 HWC HXA4 HXB hd5 hl5
        go_wp2_with fail
        refine (HWD.out w5 (HT.out.below HB5.out)).mono ?_
        rintro e w6 ⟨hb6, Ad, cd, hd, rfl, hsd, hmd⟩
        have HB6 := Lib.hid (bcall HB5.out hb6)
        have HS6 := Lib.hid ((HS5.out.below hb6).more hb6.size)
        have HXA6 := Lib.hid (HXA5.out.keep hb6 hb6.size)
        have HXB6 := Lib.hid (HXB5.out.keep hb6 hb6.size)
        have HXC6 := Lib.hid (HXC.out.keep hb6 hb6.size)
        have HXD := Lib.hid hsd
        have HMD := Lib.hid hmd
        obtain ⟨nd, hnd⟩ : ∃ k, hd.length = k := ⟨_, rfl⟩
        rw [hnd] at HXD ⊢
        clear hb6 hsd hmd hnd HS5 HWD HXA5 HXB5 HXC
        go_wp2_with fail
        refine (rencode_any w6 w6.heap.size (Nat.le_refl _) A1 n c1 f HS6.out (by omega) HFW.out).mono ?_
        rintro e w7 ⟨⟨tf, rfl, hdf, htf⟩, hb7⟩
        have HB7 := Lib.hid (bcall HB6.out hb7)
        have HDF := Lib.hid hdf
        have HBa := Lib.hid hb7
        clear hb7 hdf HS6
        go_wp2_with fail
        refine (HDU.out w7).mono ?_
        rintro e w8 ⟨hb8, hcase8⟩
        have HB8 := Lib.hid (bcall HB7.out hb8)
        have HBb := Lib.hid (bcall HBa.out hb8)
        have HAA := Lib.hid (fun W (hW : Below w6.heap.size w6 W) (x : List UInt8) (hx : x.length ≤ 1048576) => accepts_any W w6.heap.size hW.size Aa na ca ha (HXA6.out.keep hW (Nat.le_refl _)) x (by omega))
        have HAB := Lib.hid (fun W (hW : Below w6.heap.size w6 W) (x : List UInt8) (hx : x.length ≤ 1048576) => accepts_any W w6.heap.size hW.size Ab nb cb hb (HXB6.out.keep hW (Nat.le_refl _)) x (by omega))
        have HAC := Lib.hid (fun W (hW : Below w6.heap.size w6 W) (x : List UInt8) (hx : x.length ≤ 1048576) => accepts_any W w6.heap.size hW.size Ac nc cc hc (HXC6.out.keep hW (Nat.le_refl _)) x (by omega))
        have HAD := Lib.hid (fun W (hW : Below w6.heap.size w6 W) (x : List UInt8) (hx : x.length ≤ 1048576) => accepts_any W w6.heap.size hW.size Ad nd cd hd (HXD.out.keep hW (Nat.le_refl _)) x (by omega))
        have H63 : Hid (∀ c ∈ f, c ≠ 63) := fun c hc => (H4.out c hc).2
        have HTA : Hid (takesB (ha.map (·.d)) tf = true) := by
          have := made_same HMA.out H63.out HDF.out
          rw [decide_eq_true rfl] at this
          exact this
        have HTC : Hid (takesB (hc.map (·.d)) tf = true) := by
          have := made_begins HMC.out H63.out HDF.out
          rw [decide_eq_true (List.prefix_refl _)] at this
          exact this
        have htfl : tf.length ≤ 1048576 := by omega
        clear hb8 HXA6 HXB6 HXC6 HXD htf HDU
        have step1 : True := trivial
        rcases hcase8 with ⟨v8, lu, rfl, hd8, ho8⟩ | ⟨rfl, hno8⟩
        · have HDL := Lib.hid hd8
          clear hd8 ho8 step1
          go_wp2_with fail
          refine (HAA.out w8 HBb.out tf htfl).mono ?_
          rintro e w9 ⟨rfl, hb9⟩
          rw [HTA.out]
          have HB9 := Lib.hid (bcall HB8.out hb9)
          have HBc := Lib.hid (bcall HBb.out hb9)
          clear hb9
          go_wp2_with fail
          refine (HAC.out w9 HBc.out tf htfl).mono ?_
          rintro e w10 ⟨rfl, hb10⟩
          rw [HTC.out]
          have HB10 := Lib.hid (bcall HB9.out hb10)
          have HBd := Lib.hid (bcall HBc.out hb10)
          clear hb10
          obtain ⟨pa, hpa⟩ : ∃ p, decide (lu = f) = p := ⟨_, rfl⟩
          obtain ⟨pb, hpb⟩ : ∃ p, decide (f <+: lu) = p := ⟨_, rfl⟩
          have HUA : Hid (takesB (ha.map (·.d)) u = pa) := (made_same HMA.out H63.out HDL.out).trans hpa
          have hut : (u == tf) = pa := (same_text HDL.out HDF.out).trans hpa
          have HUB : Hid (takesB (hb.map (·.d)) u = pb) := (made_begins HMB.out H63.out HDL.out).trans hpb
          have HUC : Hid (takesB (hc.map (·.d)) u = pb) := (made_begins HMC.out H63.out HDL.out).trans hpb
          have HUD : Hid (takesB (hd.map (·.d)) u = true) := star_all HMD.out HDL.out
          have paa : (pa == pa) = true := by simp
          have pbb : (pb == pb) = true := by simp
          clear hpa hpb
          go_wp2_with fail
          refine (HAA.out w10 HBd.out u (by omega)).mono ?_
          rintro e w11 ⟨rfl, hb11⟩
          rw [HUA.out]
          have HB11 := Lib.hid (bcall HB10.out hb11)
          have HBe := Lib.hid (bcall HBd.out hb11)
          clear hb11
          go_wp2_with fail
          refine (HAB.out w11 HBe.out u (by omega)).mono ?_
          rintro e w12 ⟨rfl, hb12⟩
          rw [HUB.out]
          have HB12 := Lib.hid (bcall HB11.out hb12)
          have HBf := Lib.hid (bcall HBe.out hb12)
          clear hb12
          go_wp2_with fail
          refine (HAC.out w12 HBf.out u (by omega)).mono ?_
          rintro e w13 ⟨rfl, hb13⟩
          rw [HUC.out]
          have HB13 := Lib.hid (bcall HB12.out hb13)
          have HBg := Lib.hid (bcall HBf.out hb13)
          clear hb13
          go_wp2_with fail
          refine (HAD.out w13 HBg.out u (by omega)).mono ?_
          rintro e w14 ⟨rfl, hb14⟩
          rw [HUD.out]
          have HB14 := Lib.hid (bcall HB13.out hb14)
          clear hb14
          go_wp2_with fail
          go_ret
          exact ⟨rfl, HB14.out⟩
        · clear hno8 step1
          go_wp2_with fail
          refine (HAA.out w8 HBb.out tf htfl).mono ?_
          rintro e w9 ⟨rfl, hb9⟩
          rw [HTA.out]
          have HB9 := Lib.hid (bcall HB8.out hb9)
          have HBc := Lib.hid (bcall HBb.out hb9)
          clear hb9
          go_wp2_with fail
          refine (HAC.out w9 HBc.out tf htfl).mono ?_
          rintro e w10 ⟨rfl, hb10⟩
          rw [HTC.out]
          have HB10 := Lib.hid (bcall HB9.out hb10)
          clear hb10
          go_wp2_with fail
          go_ret
          exact ⟨rfl, HB10.out⟩
      · obtain rfl := HD.out.inj hd5
        rw [HF.out] at hl5
        exact absurd (hl5.symm.trans HE.out) hz5
      · exact absurd HD.out (hno5 l)
  · have hzb : (z != 0) = true := by rw [bne_iff_ne]; exact hz1
    clear hd1 hl1 hz1
    go_wp2_with fail
    refine (wawake_any w1 (HT.out.below HB1.out)).mono ?_
    rintro e w2 ⟨rfl, hb2⟩
    have HB2 := Lib.hid (bcall HB1.out hb2)
    clear hb2
    go_wp2_with fail
    refine (wawake_any w2 (HT.out.below HB2.out)).mono ?_
    rintro e w3 ⟨rfl, hb3⟩
    have HB3 := Lib.hid (bcall HB2.out hb3)
    clear hb3
    go_wp2_with fail
    go_ret
    exact ⟨rfl, HB3.out⟩
  · clear hno1
    go_wp2_with fail
    refine (wawake_any w1 (HT.out.below HB1.out)).mono ?_
    rintro e w2 ⟨rfl, hb2⟩
    have HB2 := Lib.hid (bcall HB1.out hb2)
    clear hb2
    go_wp2_with fail
    refine (wawake_any w2 (HT.out.below HB2.out)).mono ?_
    rintro e w3 ⟨rfl, hb3⟩
    have HB3 := Lib.hid (bcall HB2.out hb3)
    clear hb3
    go_wp2_with fail
    go_ret
    exact ⟨rfl, HB3.out⟩
theorem wsame_walkc (w : World) {H : Type} (s : ByteArray) (_ : s.size ≤ maxLen) (_ : s.data.toList.length ≤ reachBytes) (m : ByteArray) (_ : m.size ≤ maxLen) (_ : m.data.toList.length ≤ reachBytes) (hk : Rows.uptoSmall H ([.lit (.string s.data.toList), .lit (.string m.data.toList)] ++ []) = true) (hT : Tab w) :
    Calls Tryd.prog 9 #[.string s, .string m] w fun e w' => e = .returned (.bool true) ∧ Below w.heap.size w w' := wsame_walk w s.data.toList m.data.toList (upto_two hk).1 (upto_two hk).2 hT
end Go.Proofs.YtclahhkcbkpofaaDoor
