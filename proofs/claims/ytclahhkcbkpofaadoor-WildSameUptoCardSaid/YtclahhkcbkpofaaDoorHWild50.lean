/- The walk of WildPrefixes. -/
import Derived.Test.YtclahhkcbkpofaaDoorHWild48
import Derived.Test.YtclahhkcbkpofaaDoorHWild49
import Derived.Test.YtclahhkcbkpofaaDoorRows
import Derived.Test.YtclahhkcbkpofaaDoorHWild46
namespace Go.Proofs.YtclahhkcbkpofaaDoor
open Go.RowKit
open Sp
set_option linter.unusedVariables false

theorem upto_one {H : Type} {a : List UInt8} {d : DataW H} (hk : Rows.uptoSmall H ([.lit (.string a), d] ++ []) = true) : a.length ≤ 1048576 := by
  have h := of_decide_eq_true hk
  simp only [List.append_nil, Rows.uptoBulkAll, Rows.uptoBulk] at h
  omega
set_option maxRecDepth 100000 in
set_option maxHeartbeats 8000000 in
theorem wprefixes_walk (w : World) (t : List UInt8) (ht : t.length ≤ 1048576) (At : Option Addr) (nt ct : Nat) (y : Nat → ByteArray) (hy : TextsB w At nt ct y) (hT : Tab w) :
    Calls Tryd.prog 8 #[.string ⟨t.toArray⟩, .slice At nt ct] w fun e w' => e = .returned (.bool true) ∧ Below w.heap.size w w' := by
  have HL := Lib.hid (prefix_any w t (by omega) hT)
  have HR := Lib.hid (fun W => rletters_any W t [] (by omega) (by simp))
  have HT := Lib.hid hT
  have HY := Lib.hid hy
  have hnt : nt ≤ 1125899906842624 := by
    have := hy.ok.rb
    unfold reachBytes at this
    omega
  clear hT ht hy
  go_enter Tryd.func8, Tryd.ntmps8
  go_wp2_with fail
  refine HL.out.mono ?_
  rintro e w1 ⟨hb1, hcase1⟩
  have HB1 := Lib.hid hb1
  clear hb1 HL
  rcases hcase1 with ⟨A1, c1, hs, l1, rfl, hd1, hl1, hst1, hmq⟩ | ⟨l1, z1, rfl, hz1, hd1, hl1⟩ | ⟨rfl, hno1⟩
  · have HS1 := Lib.hid hst1
    have HD1 := Lib.hid hd1
    have HE1 := Lib.hid hl1
    have HMQ := Lib.hid hmq
    have HCK : Hid (checkE (hs.map (·.d)) = 0) := (good_iff _).2 hmq.2.1
    obtain ⟨nx, hnx⟩ : ∃ k, hs.length = k := ⟨_, rfl⟩
    rw [hnx] at HS1 ⊢
    have H63 : Hid (∀ c ∈ l1.map foldI, c ≠ 63) := fun c hc => (let_no42 (all_letter (lets_zero hl1).2.2 hc)).2
    clear hst1 hd1 hl1 hmq hnx
    go_wp2_with fail
    refine (HR.out w1).mono ?_
    rintro e w2 ⟨hb2, hcase2⟩
    have HB2 := Lib.hid hb2
    clear hb2 HR
    rcases hcase2 with ⟨v2, l2, rfl, hd2, hl2, ho2⟩ | ⟨l2, z2, rfl, hz2, hd2, hl2⟩ | ⟨rfl, hno2⟩
    · obtain rfl := HD1.out.inj hd2
      obtain ⟨A2, c2, rfl, hs2⟩ := row_sl ho2
      obtain ⟨n2, hn2⟩ : ∃ k, l1.length = k := ⟨_, rfl⟩
      have hn16 : n2 ≤ 16 := by have := (lets_zero hl2).1; rw [List.length_map] at this; omega
      rw [hn2] at hs2 ⊢
      have HS2 := Lib.hid hs2
      have HB12 := Lib.hid (bcall HB1.out HB2.out)
      clear hs2 hd2 hl2 ho2 hn2
      go_wp2_with fail
      refine (wawake_any w2 (HT.out.below HB12.out)).mono ?_
      rintro e w3 ⟨rfl, hb3⟩
      have HB23 := Lib.hid (bcall HB2.out hb3)
      have HB3 := Lib.hid (bcall HB12.out hb3)
      have HX3 := Lib.hid (HS1.out.keep HB23.out HB23.out.size)
      have HP3 := Lib.hid ((HS2.out.below hb3).more hb3.size)
      clear hb3 HS1 HS2
      go_wp2_with fail
      go_loopw [9] (fun iv wr => ∃ i : Nat, i ≤ 20 ∧ iv = .int .i64 (i : Int) ∧ Hid (Below w3.heap.size w3 wr)) (fun iv _ => 20 - (intOf iv).toNat)
      case atStart => exact ⟨0, Nat.zero_le _, rfl, brefl w3⟩
      case round =>
        obtain ⟨i, hi, rfl, HB⟩ := hrel
        have HW := Lib.hid (bcall HB3.out HB.out)
        by_cases hend : i < nt ∧ i < 20
        · obtain ⟨hm, h20⟩ := hend
          have q0 : decide ((i : Int) < (nt : Int)) = true := decide_eq_true (by omega)
          have q01 : decide (i < nt) = true := decide_eq_true hm
          have q1 : decide ((i : Int) < 20) = true := decide_eq_true (by omega)
          have q11 : decide (i < 20) = true := decide_eq_true h20
          obtain ⟨b, off, u, rfl, hbw, hul, d0⟩ := HY.out.get HW.out hm
          have HD0 : Hid (∀ W, Below wr.heap.size wr W → W.cell? ⟨b, off + i, none⟩ = some (.string ⟨u.toArray⟩) ∧ b < W.heap.size) := fun W hW => ⟨(hW.cell (p := ⟨b, off + i, none⟩) hbw).trans d0, Nat.lt_of_lt_of_le hbw hW.size⟩
          go_wp2_with fail
          refine (rdecode_any wr u (by omega)).mono ?_
          rintro e w4 ⟨hb4, ⟨v4, l4, rfl, hd4, ho4⟩ | ⟨rfl, hno4⟩⟩
          · obtain ⟨A4, c4, rfl, hs4⟩ := row_sl ho4
            obtain ⟨n4, hn4⟩ : ∃ k, l4.length = k := ⟨_, rfl⟩
            have hn4b : n4 ≤ 1048576 := by
              have h1 := hd4.len
              have h2 : (bytesN u).length = u.length := List.length_map ..
              omega
            rw [hn4] at hs4 ⊢
            obtain ⟨d1, hbw4⟩ := HD0.out w4 hb4
            have HB4 := Lib.hid (bcall HB.out hb4)
            have HS4 := Lib.hid hs4
            obtain ⟨p, hp⟩ : ∃ p, decide (l1.map foldI <+: l4) = p := ⟨_, rfl⟩
            have HTB : Hid (takesB (hs.map (·.d)) u = p) := (made_begins HMQ.out H63.out hd4).trans hp
            have HPB := Lib.hid hp
            clear hb4 hd4 ho4 hs4 hn4 hp d0 hbw
            go_wp2_with fail
            refine (accepts_any w4 w3.heap.size HB4.out.size A1 nx c1 hs (HX3.out.keep HB4.out (Nat.le_refl _)) u (by omega)).mono ?_
            rintro e w5 ⟨rfl, hb5⟩
            rw [HTB.out]
            have HB5 := Lib.hid (bcall HB4.out hb5)
            have HS5 := Lib.hid ((HS4.out.below hb5).more hb5.size)
            have HP5 := Lib.hid ((HP3.out.below HB5.out).more HB5.out.size)
            clear hb5 HTB
            go_wp2_with fail
            refine (begins_any w5 w5.heap.size (Nat.le_refl _) A4 A2 n4 n2 c4 c2 l4 (l1.map foldI) HS5.out HP5.out (by omega) (by omega)).mono ?_
            rintro e w6 ⟨rfl, hb6⟩
            rw [HPB.out]
            have HB6 := Lib.hid (bcall HB5.out hb6)
            have hpp : (p != p) = false := by simp
            clear hb6 HPB HP5 HS5 HS4
            go_wp2_with fail
            go_roundw
            case rel => exact ⟨i + 1, by omega, by go_num, HB6⟩
            case measure => simp [intOf]; omega
          · have HB4 := Lib.hid (bcall HB.out hb4)
            clear hb4 hno4 d0
            go_wp2_with fail
            go_roundw
            case rel => exact ⟨i + 1, by omega, by go_num, HB4⟩
            case measure => simp [intOf]; omega
        · have HCH : Hid (∀ W, W = wr → Calls Tryd.prog 28 #[.slice A1 nx c1] W fun e w' => e = .returned (.int .i64 0) ∧ Below w.heap.size w w') := by
            rintro W rfl
            refine (dcheck_any W w3.heap.size HB.out.size A1 nx c1 hs (HX3.out.keep HB.out (Nat.le_refl _))).mono ?_
            rintro e w' ⟨rfl, hb⟩
            exact ⟨by rw [HCK.out], bcall HW.out hb⟩
          by_cases hm : i < nt
          · have q0 : decide ((i : Int) < (nt : Int)) = true := decide_eq_true (by omega)
            have q01 : decide (i < nt) = true := decide_eq_true hm
            have q1 : decide ((i : Int) < 20) = false := decide_eq_false (by omega)
            have q11 : decide (i < 20) = false := decide_eq_false (by omega)
            clear hend
            go_wp2_with fail
            refine (HCH.out _ rfl).mono ?_
            rintro e w5 ⟨rfl, hb5⟩
            go_wp2_with fail
            go_ret
            exact ⟨rfl, hb5⟩
          · have q0 : decide ((i : Int) < (nt : Int)) = false := decide_eq_false (by omega)
            have q01 : decide (i < nt) = false := decide_eq_false hm
            clear hend
            go_wp2_with fail
            refine (HCH.out _ rfl).mono ?_
            rintro e w5 ⟨rfl, hb5⟩
            go_wp2_with fail
            go_ret
            exact ⟨rfl, hb5⟩
    · obtain rfl := HD1.out.inj hd2
      exact absurd (hl2.symm.trans HE1.out) hz2
    · exact absurd HD1.out (hno2 l1)
  · have HD1 := Lib.hid hd1
    have HE1 := Lib.hid hl1
    have hz := Lib.hid hz1
    have hzb : (z1 != 0) = true := by rw [bne_iff_ne]; exact hz1
    have hzc : (z1 != z1) = false := by simp
    have hzd : (z1 == z1) = true := by simp
    clear hd1 hl1 hz1
    go_wp2_with fail
    refine (HR.out w1).mono ?_
    rintro e w2 ⟨hb2, hcase2⟩
    have HB2 := Lib.hid hb2
    clear hb2 HR
    rcases hcase2 with ⟨v2, l2, rfl, hd2, hl2, ho2⟩ | ⟨l2, z2, rfl, hz2, hd2, hl2⟩ | ⟨rfl, hno2⟩
    · obtain rfl := HD1.out.inj hd2
      exact absurd (HE1.out.symm.trans hl2) hz.out
    · obtain rfl := HD1.out.inj hd2
      obtain rfl : z1 = z2 := HE1.out.symm.trans hl2
      have HB12 := Lib.hid (bcall HB1.out HB2.out)
      clear hz2 hd2 hl2
      go_wp2_with fail
      refine (wawake_any w2 (HT.out.below HB12.out)).mono ?_
      rintro e w3 ⟨rfl, hb3⟩
      have HB3 := Lib.hid (bcall HB12.out hb3)
      clear hb3
      go_wp2_with fail
      refine (wawake_any w3 (HT.out.below HB3.out)).mono ?_
      rintro e w4 ⟨rfl, hb4⟩
      have HB4 := Lib.hid (bcall HB3.out hb4)
      clear hb4
      go_wp2_with fail
      go_ret
      exact ⟨rfl, HB4.out⟩
    · exact absurd HD1.out (hno2 l1)
  · have HNO := Lib.hid hno1
    clear hno1
    go_wp2_with fail
    refine (HR.out w1).mono ?_
    rintro e w2 ⟨hb2, hcase2⟩
    have HB2 := Lib.hid hb2
    clear hb2 HR
    rcases hcase2 with ⟨v2, l2, rfl, hd2, hl2, ho2⟩ | ⟨l2, z2, rfl, hz2, hd2, hl2⟩ | ⟨rfl, hno2⟩
    · exact absurd hd2 (HNO.out l2)
    · exact absurd hd2 (HNO.out l2)
    · have HB12 := Lib.hid (bcall HB1.out HB2.out)
      clear hno2
      go_wp2_with fail
      refine (wawake_any w2 (HT.out.below HB12.out)).mono ?_
      rintro e w3 ⟨rfl, hb3⟩
      have HB3 := Lib.hid (bcall HB12.out hb3)
      clear hb3
      go_wp2_with fail
      refine (wawake_any w3 (HT.out.below HB3.out)).mono ?_
      rintro e w4 ⟨rfl, hb4⟩
      have HB4 := Lib.hid (bcall HB3.out hb4)
      clear hb4
      go_wp2_with fail
      go_ret
      exact ⟨rfl, HB4.out⟩
theorem wprefixes_walkc (w : World) {H : Type} {d : DataW H} (s : ByteArray) (_ : s.size ≤ maxLen) (_ : s.data.toList.length ≤ reachBytes) (At : Option Addr) (nt ct : Nat) (y : Nat → ByteArray) (hy : TextsB w At nt ct y) (hk : Rows.uptoSmall H ([.lit (.string s.data.toList), d] ++ []) = true) (hT : Tab w) :
    Calls Tryd.prog 8 #[.string s, .slice At nt ct] w fun e w' => e = .returned (.bool true) ∧ Below w.heap.size w w' := wprefixes_walk w s.data.toList (upto_one hk) At nt ct y hy hT
end Go.Proofs.YtclahhkcbkpofaaDoor
/- What the bound on the bulk gives. -/
namespace Go.Proofs.YtclahhkcbkpofaaDoor

theorem bulk_one {H : Type} (d : DataW H) : 1 ≤ Rows.uptoBulk d := by
  cases d with
  | lit l => cases l <;> simp [Rows.uptoBulk]
  | nil => simp [Rows.uptoBulk]
  | ptr d => simp [Rows.uptoBulk]
  | slice elems spare => simp [Rows.uptoBulk]
  | agg parts => simp [Rows.uptoBulk]
  | iface t d => simp [Rows.uptoBulk]
  | map entries => simp [Rows.uptoBulk]
  | held h => simp [Rows.uptoBulk]
theorem bulk_mem {H : Type} {d : DataW H} {l : List (DataW H)} (h : d ∈ l) : Rows.uptoBulk d ≤ Rows.uptoBulkAll l := by
  induction l with
  | nil => cases h
  | cons x r ih =>
    simp only [Rows.uptoBulkAll]
    rcases List.mem_cons.1 h with e | e
    · subst e; omega
    · have := ih e; omega
theorem bulk_len {H : Type} (l : List (DataW H)) : l.length ≤ Rows.uptoBulkAll l := by
  induction l with
  | nil => simp [Rows.uptoBulkAll]
  | cons x r ih => have := bulk_one x; simp only [Rows.uptoBulkAll, List.length_cons]; omega
theorem bulk_law (H : Type) : BulkLaw (H := H) Rows.uptoBulk where
  len := fun es sp => by
    have := bulk_len es
    simp only [Rows.uptoBulk]
    omega
  elem := fun es sp d hd => by
    have := bulk_mem hd
    simp only [Rows.uptoBulk]
    omega
  part := fun ps d hd => by
    have := bulk_mem hd
    simp only [Rows.uptoBulk]
    omega
  str := fun s => by simp [Rows.uptoBulk]
theorem bulk_part {H : Type} {l : List (DataW H)} (hk : Rows.uptoSmall H l = true) {d : DataW H} (hd : d ∈ l) : Rows.uptoBulk d ≤ 1048576 := by
  have h1 : Rows.uptoBulkAll l ≤ 1048576 := of_decide_eq_true hk
  exact Nat.le_trans (bulk_mem hd) h1
end Go.Proofs.YtclahhkcbkpofaaDoor
/- The reference's Encode of characters. -/
namespace Go.Proofs.YtclahhkcbkpofaaDoor
open Go.RowKit
open Sp
set_option linter.unusedVariables false

theorem mk_add (l m : List UInt8) : (⟨l.toArray⟩ : ByteArray) ++ ⟨m.toArray⟩ = ⟨(l ++ m).toArray⟩ := by
  apply ByteArray.ext
  simp [ByteArray.data_append]
theorem mk_size (l : List UInt8) : (⟨l.toArray⟩ : ByteArray).size = l.length := by show l.toArray.size = _; simp
theorem mk_cat (l m : List UInt8) (h : l.length + m.length ≤ 4611686018427) (w : World) : (Op.stringOp .add (⟨l.toArray⟩ : ByteArray) ⟨m.toArray⟩).run Tryd.prog w = .ok (.string ⟨(l ++ m).toArray⟩) w := by
  rw [← mk_add]
  exact run_string_add_sum w _ _ (by rw [mk_size, mk_size]; omega)
theorem encs_take {l : List Int} {j : Nat} {c : Int} (h : l[j]? = some c) : encs (l.take (j + 1)) = encs (l.take j) ++ encN c := by
  obtain ⟨hj, rfl⟩ := List.getElem?_eq_some_iff.1 h
  rw [List.take_succ_eq_append_getElem hj, encs_app, encs_one]
set_option maxRecDepth 100000 in
set_option maxHeartbeats 8000000 in
theorem rencode_any (w : World) (B : Nat) (hB : B ≤ w.heap.size) (A : Option Addr) (n cp : Nat) (l : List Int) (hs : Sl w B 1 A n (l.map (.int .i64))) (hn : n ≤ 1000) (hw : ∀ c ∈ l, wholeB c = true) :
    Calls Tryd.prog 32 #[.slice A n cp] w fun e w' => (∃ t : List UInt8, e = .returned (.tuple #[.string ⟨t.toArray⟩, .int .i64 0]) ∧ Dec (bytesN t) l ∧ t.length ≤ 4 * n) ∧ Below w.heap.size w w' := by
  have hln : l.length = n := by have := hs.1; simpa using this
  have HS := Lib.hid hs
  have HL := Lib.hid hln
  have HWH := Lib.hid hw
  clear hs hw
  go_enter Tryd.func32, Tryd.ntmps32
  go_wp2_with fail
  go_loopw [4, 5] (fun sv iv wr => ∃ (j : Nat) (u : List UInt8), j ≤ n ∧ iv = .int .i64 (j : Int) ∧ sv = .string ⟨u.toArray⟩ ∧ Hid (bytesN u = encs (l.take j)) ∧ u.length ≤ 4 * j ∧ Hid (Below w.heap.size w wr)) (fun _ iv _ => n - (intOf iv).toNat)
  case atStart => exact ⟨0, [], Nat.zero_le _, rfl, rfl, Lib.hid rfl, Nat.le_refl _, brefl w⟩
  case round =>
    obtain ⟨j, u, hj, rfl, rfl, HU, hul, HB⟩ := hrel
    by_cases hjn : j < n
    · obtain ⟨c, hc⟩ : ∃ c, l[j]? = some c := ⟨l[j]'(by omega), List.getElem?_eq_getElem _⟩
      have hwc := HWH.out c (List.mem_of_getElem? hc)
      obtain ⟨b0, off, rfl, hb0, hcl0⟩ := HS.out.at_ hjn
      have HCE : Hid (∀ W, Below w.heap.size w W → W.cell? ⟨b0, off + j, none⟩ = some (.int .i64 c) ∧ b0 < W.heap.size) := fun W hW => ⟨(hW.cell (p := ⟨b0, off + j, none⟩) (by show b0 < _; omega)).trans (hcl0 j (.int .i64 c) (by rw [List.getElem?_map, hc]; rfl)), Nat.lt_of_lt_of_le hb0 (Nat.le_trans hB hW.size)⟩
      obtain ⟨r0, hbw⟩ := HCE.out wr HB.out
      have hq : decide (j < n) = true := decide_eq_true hjn
      obtain ⟨tc, htc1, htc2, htc3, _⟩ := chars_bytes hwc
      have HONE := Lib.hid (one_any c hwc)
      rw [htc1] at HONE
      have HWC := Lib.hid (rwhole_any c)
      rw [hwc] at HWC
      have HET := Lib.hid (encs_take hc)
      obtain ⟨u2, hu2⟩ : ∃ u2, u ++ tc = u2 := ⟨_, rfl⟩
      have hcat := fun W => mk_cat u tc (by omega) W
      rw [hu2] at hcat
      have HU2 : Hid (bytesN u2 = encs (l.take (j + 1))) := by show _ = _; rw [← hu2, bytesN_app, HU.out, htc2, HET.out]
      have hu2l : u2.length ≤ 4 * (j + 1) := by rw [← hu2, List.length_append]; omega
      clear hc hcl0 htc1 htc2 hwc hu2 HET
      go_wp2_with fail
      refine (HWC.out _).mono ?_
      rintro e w2 ⟨rfl, rfl⟩
      go_wp2_with fail
      refine (HONE.out _).mono ?_
      rintro e w3 ⟨rfl, hb3⟩
      have HB3 := Lib.hid (bcall HB.out hb3)
      clear hb3
      go_wp2_with fail
      go_roundw
      case rel => exact ⟨j + 1, u2, by omega, by go_num, rfl, HU2, hu2l, HB3⟩
      case measure => simp [intOf]; omega
    · obtain rfl : j = n := by omega
      have hq : decide (j < j) = false := decide_eq_false hjn
      have HPOST : Hid (∃ t : List UInt8, Ending.returned (.tuple #[.string ⟨u.toArray⟩, .int .i64 0]) = .returned (.tuple #[.string ⟨t.toArray⟩, .int .i64 0]) ∧ Dec (bytesN t) l ∧ t.length ≤ 4 * j) := ⟨u, rfl, ⟨HWH.out, by have := HU.out; rwa [← HL.out, List.take_length] at this⟩, hul⟩
      go_wp2_with fail
      go_ret2
      exact ⟨HPOST.out, HB.out⟩
end Go.Proofs.YtclahhkcbkpofaaDoor
