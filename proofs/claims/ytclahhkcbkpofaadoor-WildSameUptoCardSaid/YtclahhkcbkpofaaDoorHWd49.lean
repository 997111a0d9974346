/- The reference's Letters. -/
import Derived.Test.YtclahhkcbkpofaaDoorHWd48
import Derived.Test.YtclahhkcbkpofaaDoorHWd9
import Derived.Test.YtclahhkcbkpofaaDoorHWd1
import Derived.Test.YtclahhkcbkpofaaDoorRows
import Derived.Test.YtclahhkcbkpofaaDoorChecked
import Derived.Test.YtclahhkcbkpofaaDoorHWd23
namespace Go.Proofs.YtclahhkcbkpofaaDoor
open Go.RowKit
open Sp
set_option linter.unusedVariables false
set_option maxRecDepth 100000 in
set_option maxHeartbeats 8000000 in
theorem rletters_any (w : World) (t m : List UInt8) (ht : t.length ≤ 17592186044414) (hm : m.length ≤ 17592186044414) : Calls Tryd.prog 18 #[.string ⟨t.toArray⟩, .string ⟨m.toArray⟩] w (LetsP w t m) := by
  have HD := Lib.hid (rfolded_any w t ht)
  have hz : (⟨m.toArray⟩ : ByteArray).size = m.length := by show m.toArray.size = _; simp
  have HBY := Lib.hid (fun j b h => @mark_at m j b h)
  obtain ⟨M, hM⟩ : ∃ M, m.length = M := ⟨_, rfl⟩
  rw [hM] at hz hm
  have HML := Lib.hid hM
  clear hM ht
  go_enter Tryd.func18, Tryd.ntmps18
  go_wp2_with fail
  refine HD.out.mono ?_
  rintro e w1 ⟨hb1, ⟨v, l, rfl, hd1, ho1⟩ | ⟨rfl, hno⟩⟩
  · have HB1 := Lib.hid hb1
    obtain ⟨A, cp, rfl, hcp⟩ := own_shape ho1
    obtain ⟨f, hf⟩ : ∃ f, l.map foldI = f := ⟨_, rfl⟩
    have hfl : f.length = l.length := by rw [← hf, List.length_map]
    obtain ⟨n, hn⟩ : ∃ n, l.length = n := ⟨_, rfl⟩
    have HPB : Hid (∀ z : Int, z ≠ 0 → letsE f m = z → ∀ W, Below w1.heap.size w1 W → LetsP w t m (.returned (.tuple #[.slice none 0 0, .int .i64 z])) W) := fun z hz h W hW => ⟨bcall hb1 hW, .inr (.inl ⟨l, z, rfl, hz, hd1, by rw [hf]; exact h⟩)⟩
    have HPO : Hid (letsE f m = 0 → ∀ W, Below w1.heap.size w1 W → LetsP w t m (.returned (.tuple #[.slice A n cp, .int .i64 0])) W) := fun h W hW => ⟨bcall hb1 hW, .inl ⟨.slice A n cp, l, rfl, hd1, by rw [hf]; exact h, by have := own_kept ho1 hW; rwa [hn] at this ⊢⟩⟩
    rw [hf, hn] at ho1
    rw [hn] at hfl hcp ⊢
    have HO1 := Lib.hid (Sl.of_own ho1)
    have HFL := Lib.hid hfl
    clear hb1 hd1 ho1 hn HD hf hfl
    by_cases c1 : 16 < n
    · have HX := Lib.hid (HPB.out 4 (by omega) (by unfold letsE; rw [if_pos (by rw [HFL.out]; exact c1)]) w1 (brefl w1))
      have q1 : decide (16 < n) = true := decide_eq_true c1
      have q2 : decide ((n : Int) > 16) = true := decide_eq_true (by omega)
      go_wp2_with fail
      go_ret2
      exact HX.out
    have q1 : decide (16 < n) = false := decide_eq_false c1
    have q2 : decide ((n : Int) > 16) = false := decide_eq_false (by omega)
    by_cases c2 : n = 0
    · have HX := Lib.hid (HPB.out 20 (by omega) (by unfold letsE; rw [HFL.out, if_neg c1, if_pos c2]) w1 (brefl w1))
      subst c2
      go_wp2_with fail
      go_ret2
      exact HX.out
    have q3 : ((n : Int) == 0) = false := by rw [beq_eq_false_iff_ne]; omega
    have q4 : (n == 0) = false := by rw [beq_eq_false_iff_ne]; exact c2
    have HNB : Hid (f.all (okC m) = false → letsE f m = 20) := fun h => by unfold letsE; rw [HFL.out, if_neg c1, if_neg c2, h]; rfl
    have HNG : Hid (f.all (okC m) = true → letsE f m = 0) := fun h => by unfold letsE; rw [HFL.out, if_neg c1, if_neg c2, h]; rfl
    have hn16 : n ≤ 16 := by omega
    clear c1
    go_wp2_with fail
    go_loopw [8] (fun iv wr => ∃ j : Nat, j ≤ n ∧ iv = .int .i64 (j : Int) ∧ Hid (Below w1.heap.size w1 wr) ∧ Hid ((f.take j).all (okC m) = true)) (fun iv _ => n - (intOf iv).toNat)
    case atStart => exact ⟨0, Nat.zero_le _, rfl, brefl w1, rfl⟩
    case round =>
      obtain ⟨j, hj, rfl, HB, HA⟩ := hrel
      by_cases hjn : j < n
      · obtain ⟨c, hc⟩ : ∃ c, f[j]? = some c := ⟨f[j]'(by rw [HFL.out]; exact hjn), List.getElem?_eq_getElem _⟩
        obtain ⟨b0, off, rfl, hb0, hcl0⟩ := HO1.out.at_ hjn
        have HCE : Hid (∀ W, Below w1.heap.size w1 W → W.cell? ⟨b0, off + j, none⟩ = some (.int .i64 c) ∧ b0 < W.heap.size) := fun W hW => ⟨(hW.cell (p := ⟨b0, off + j, none⟩) hb0).trans (hcl0 j (.int .i64 c) (by rw [List.getElem?_map, hc]; rfl)), Nat.lt_of_lt_of_le hb0 hW.size⟩
        obtain ⟨r0, hbw⟩ := HCE.out wr HB.out
        have hq : decide (j < n) = true := decide_eq_true hjn
        have HC := Lib.hid hc
        clear hc hcl0
        go_wp2_with fail
        refine (rletter_any c _).mono ?_
        rintro e w2 ⟨rfl, hb2⟩
        have HB2 := Lib.hid (bcall HB.out hb2)
        clear hb2 r0 hbw HB
        go_wp2_with fail
        go_loopw [9, 10] (fun okv iv w3 => ∃ k : Nat, k ≤ M ∧ iv = .int .i64 (k : Int) ∧ okv = .bool (letB c || (m.take k).any fun b => c == (b.toNat : Int)) ∧ Hid (Below w1.heap.size w1 w3)) (fun _ iv _ => M - (intOf iv).toNat)
        case atStart => exact ⟨0, Nat.zero_le _, rfl, by simp, HB2⟩
        case round =>
          obtain ⟨k, hk, rfl, rfl, HB3⟩ := hrel
          clear HB2
          obtain ⟨r0, hbw⟩ := HCE.out wr HB3.out
          obtain ⟨ob, hob⟩ : ∃ ob, (letB c || (m.take k).any fun b => c == (b.toNat : Int)) = ob := ⟨_, rfl⟩
          have HOB := Lib.hid hob
          simp only [hob]
          clear hob
          by_cases hkm : k < M
          · obtain ⟨b, hb⟩ : ∃ b, m[k]? = some b := ⟨m[k]'(by rw [HML.out]; exact hkm), List.getElem?_eq_getElem _⟩
            have hy := HBY.out k b hb
            obtain ⟨z, hzb⟩ : ∃ z : Int, (b.toNat : Int) = z := ⟨_, rfl⟩
            rw [hzb] at hy
            have hz0 : 0 ≤ z := by omega
            have hz1 : z ≤ 255 := by have := b.toNat_lt; omega
            obtain ⟨x, hx⟩ : ∃ x, (c == z) = x := ⟨_, rfl⟩
            have HON : Hid ((letB c || (m.take (k + 1)).any fun b => c == (b.toNat : Int)) = (ob || x)) := by
              show _ = _
              rw [any_take hb, ← Bool.or_assoc, HOB.out, hzb, hx]
            have hq2 : decide (k < M) = true := decide_eq_true hkm
            clear hb hzb HOB
            cases ob
            · go_wp2_with fail
              go_region
              go_wp2_with fail
              go_roundw
              case rel => exact ⟨k + 1, by omega, by go_num, by rw [HON.out]; simp, HB3.out.drew⟩
              case measure => simp [intOf]; omega
            · clear hx
              go_wp2_with fail
              go_region
              go_wp2_with fail
              go_roundw
              case rel => exact ⟨k + 1, by omega, by go_num, by rw [HON.out]; simp, HB3.out.drew⟩
              case measure => simp [intOf]; omega
          · obtain rfl : k = M := by omega
            have HOK : Hid (okC m c = ob) := by
              have := HOB.out
              rw [← HML.out, List.take_length] at this
              exact this
            have hq2 : decide (k < k) = false := decide_eq_false hkm
            clear HOB
            cases ob
            · have HX := Lib.hid (HPB.out 20 (by omega) (HNB.out (all_no (List.mem_of_getElem? HC.out) HOK.out)) wr HB3.out)
              go_wp2_with fail
              go_ret2
              exact HX.out
            · have HAN := Lib.hid (all_take HC.out HA.out HOK.out)
              go_wp2_with fail
              go_roundw
              case rel => exact ⟨j + 1, by omega, by go_num, HB3, HAN⟩
              case measure => simp [intOf]; omega
      · obtain rfl : j = n := by omega
        have HX := Lib.hid (HPO.out (HNG.out (by have := HA.out; rwa [← HFL.out, List.take_length] at this)) wr HB.out)
        have hq : decide (j < j) = false := decide_eq_false hjn
        go_wp2_with fail
        go_ret2
        exact HX.out
  · have HPOST : Hid (LetsP w t m (.returned (.tuple #[.slice none 0 0, .int .i64 7])) w1) := ⟨hb1, .inr (.inr ⟨rfl, hno⟩)⟩
    clear hb1 hno HD
    go_wp2_with fail
    go_ret2
    exact HPOST.out
end Go.Proofs.YtclahhkcbkpofaaDoor
/- The reference's comparison of two lists of numbers (as in chapter 18). -/
namespace Go.Proofs.YtclahhkcbkpofaaDoor
open Go.RowKit
theorem ints_at {w : World} {B n : Nat} {A : Option Addr} {l : List Int} (h : Sl w B 1 A n (l.map (Value.int .i64))) (hn : n = l.length) {k : Nat} (hk : k < l.length) :
    ∃ b off, A = some ⟨b, off, none⟩ ∧ b < B ∧ w.cell? ⟨b, off + k, none⟩ = some (.int .i64 l[k]) := by
  obtain ⟨b, off, hA, hb, hc⟩ := h.at_ (k := k) (by omega)
  exact ⟨b, off, hA, hb, hc k _ (by simp [hk])⟩

def SameInts (l m : List Int) : Bool := decide (l = m)
theorem same_len {l m : List Int} (h : l.length ≠ m.length) : SameInts l m = false := by
  unfold SameInts; rw [decide_eq_false_iff_not]; intro e; exact h (by rw [e])
theorem same_succ {l m : List Int} {k : Nat} (hl : k < l.length) (hm : k < m.length) (h : Hid (l.take k = m.take k)) (he : l[k] = m[k]) : Hid (l.take (k + 1) = m.take (k + 1)) := by
  have h := h.out
  show _ = _
  rw [List.take_succ_eq_append_getElem hl, List.take_succ_eq_append_getElem hm, h, he]
theorem same_bad {l m : List Int} {k : Nat} (hl : k < l.length) (hm : k < m.length) (he : l[k] ≠ m[k]) : false = SameInts l m := by
  unfold SameInts; rw [eq_comm, decide_eq_false_iff_not]; intro e; subst e; exact he rfl
theorem same_end {l m : List Int} {k : Nat} (hl : ¬ k < l.length) (hm : l.length = m.length) (h : Hid (l.take k = m.take k)) : true = SameInts l m := by
  have h := h.out
  rw [List.take_of_length_le (by omega), List.take_of_length_le (by omega)] at h
  unfold SameInts; rw [eq_comm, decide_eq_true_iff]; exact h

set_option maxHeartbeats 1000000 in
theorem numbers_any (A1 A2 : Option Addr) (c1 c2 B : Nat) (l m : List Int) (w : World) (h1 : Sl w B 1 A1 l.length (l.map (Value.int .i64))) (h2 : Sl w B 1 A2 m.length (m.map (Value.int .i64))) (hl : l.length ≤ 281474976710656) :
    Calls Tryd.prog 20 #[.slice A1 l.length c1, .slice A2 m.length c2] w fun e w' => e = .returned (.bool (SameInts l m)) ∧ ∃ q, w' = w.drewN q := by
  by_cases hlen : l.length = m.length
  · have HL := Lib.hid hlen
    have hb1 : ((l.length : Int) != (m.length : Int)) = false := by simp [hlen]
    clear hlen
    go_enter Tryd.func20, Tryd.ntmps20
    go_wp2
    go_loopw [5] (fun i wr => ∃ k : Nat, k ≤ l.length ∧ i = .int .i64 k ∧ Hid (l.take k = m.take k) ∧ ∃ q, wr = w.drewN q) (fun i _ => l.length - (intOf i).toNat)
    case atStart => exact ⟨0, by omega, rfl, rfl, 0, rfl⟩
    case round =>
      obtain ⟨k, hk, rfl, hs, q, rfl⟩ := hrel
      by_cases hlt : k < l.length
      · have hlt2 : k < m.length := by have := HL.out; omega
        obtain ⟨b1, o1, rfl, hB1, hc1⟩ := ints_at h1 rfl hlt
        obtain ⟨b2, o2, rfl, hB2, hc2⟩ := ints_at h2 rfl hlt2
        by_cases he : l[k] = m[k]
        · have HE := Lib.hid he
          have hb : (l[k] != m[k]) = false := by simp [he]
          clear he
          go_wp2
          go_quiet (fail)
          go_wp2
          go_roundw
          case rel => exact ⟨k + 1, by omega, by go_num, same_succ hlt hlt2 hs HE.out, _, rfl⟩
          case measure => simp [intOf]; omega
        · have hb : (l[k] != m[k]) = true := by simpa using he
          go_wp2
          go_quiet (fail)
          go_wp2
          go_ret
          exact ⟨ret_bool (same_bad hlt hlt2 he), _, World.drewN_drewN _ _ _⟩
      · go_wp2
        go_ret
        exact ⟨ret_bool (same_end hlt HL.out hs), _, rfl⟩
  · have hb1 : ((l.length : Int) != (m.length : Int)) = true := by simp; omega
    go_enter Tryd.func20, Tryd.ntmps20
    go_wp2
    go_ret
    exact ⟨ret_bool (same_len hlen).symm, 0, rfl⟩
end Go.Proofs.YtclahhkcbkpofaaDoor
/- The walk of WildLetters. -/
namespace Go.Proofs.YtclahhkcbkpofaaDoor
open Go.RowKit
open Sp
set_option linter.unusedVariables false
theorem upto_two {H : Type} {a b : List UInt8} (hk : Rows.uptoSmall H ([.lit (.string a), .lit (.string b)] ++ []) = true) : a.length ≤ 1048576 ∧ b.length ≤ 1048576 := by
  have h := of_decide_eq_true hk
  simp only [List.append_nil, Rows.uptoBulkAll, Rows.uptoBulk] at h
  omega
theorem same_self (l : List Int) : SameInts l l = true := by simp [SameInts]
theorem row_sl {w : World} {b n : Nat} {v : Value} {xs : List Value} (h : w.ownsRow b 3 1 v n xs) : ∃ A c, v = .slice A n c ∧ Sl w w.heap.size 1 A n xs := by
  obtain ⟨A, c, rfl, _⟩ := own_shape h
  exact ⟨A, c, rfl, Sl.of_own h⟩
set_option maxRecDepth 100000 in
set_option maxHeartbeats 8000000 in
theorem wletters_walk (w : World) (t m : List UInt8) (ht : t.length ≤ 1048576) (hm : m.length ≤ 1048576) (hT : Tab w) :
    Calls Tryd.prog 4 #[.string ⟨t.toArray⟩, .string ⟨m.toArray⟩] w fun e w' => e = .returned (.bool true) ∧ Below w.heap.size w w' := by
  have HL := Lib.hid (letters_any w t m (by omega) (by omega))
  have HR := Lib.hid (fun W => rletters_any W t m (by omega) (by omega))
  have HT := Lib.hid hT
  clear hT ht hm
  go_enter Tryd.func4, Tryd.ntmps4
  go_wp2_with fail
  refine HL.out.mono ?_
  rintro e w1 ⟨hb1, hcase1⟩
  have HB1 := Lib.hid hb1
  clear hb1 HL
  rcases hcase1 with ⟨v1, l1, rfl, hd1, hl1, ho1⟩ | ⟨l1, z1, rfl, hz1, hd1, hl1⟩ | ⟨rfl, hno1⟩
  · obtain ⟨A1, c1, rfl, hs1⟩ := row_sl ho1
    have HS1 := Lib.hid hs1
    have HD1 := Lib.hid hd1
    have HE1 := Lib.hid hl1
    obtain ⟨n, hn⟩ : ∃ n, l1.length = n := ⟨_, rfl⟩
    rw [hn] at HS1 ⊢
    have HN := Lib.hid hn
    have hn16 : n ≤ 16 := by have := (lets_zero hl1).1; rw [List.length_map] at this; omega
    clear hs1 hd1 hl1 ho1 hn
    go_wp2_with fail
    refine (HR.out w1).mono ?_
    rintro e w2 ⟨hb2, hcase2⟩
    have HB2 := Lib.hid hb2
    clear hb2 HR
    rcases hcase2 with ⟨v2, l2, rfl, hd2, hl2, ho2⟩ | ⟨l2, z2, rfl, hz2, hd2, hl2⟩ | ⟨rfl, hno2⟩
    · obtain rfl := HD1.out.inj hd2
      obtain ⟨A2, c2, rfl, hs2⟩ := row_sl ho2
      rw [HN.out] at hs2 ⊢
      have HS2 := Lib.hid hs2
      have HB12 := Lib.hid (bcall HB1.out HB2.out)
      clear hs2 hd2 hl2 ho2
      go_wp2_with fail
      refine (wawake_any w2 (HT.out.below HB12.out)).mono ?_
      rintro e w3 ⟨rfl, hb3⟩
      have HB3 := Lib.hid (bcall HB12.out hb3)
      have HSA := Lib.hid ((HS1.out.below (bcall HB2.out hb3)).more (bcall HB2.out hb3).size)
      have HSB := Lib.hid ((HS2.out.below hb3).more hb3.size)
      clear hb3
      have HNU := Lib.hid (numbers_any A1 A2 c1 c2 w3.heap.size (l1.map foldI) (l1.map foldI) w3 (by rw [List.length_map, HN.out]; exact HSA.out) (by rw [List.length_map, HN.out]; exact HSB.out) (by rw [List.length_map, HN.out]; omega))
      rw [same_self, List.length_map, HN.out] at HNU
      go_wp2_with fail
      refine HNU.out.mono ?_
      rintro e w4 ⟨rfl, k4, rfl⟩
      have HB4 := Lib.hid (below_drewN HB3.out k4)
      go_wp2_with fail
      go_ret
      exact ⟨rfl, HB4.out⟩
    · obtain rfl := HD1.out.inj hd2
      exact absurd (hl2.symm.trans HE1.out) hz2
    · exact absurd HD1.out (hno2 l1)
  · have HD1 := Lib.hid hd1
    have HE1 := Lib.hid hl1
    have HZ := Lib.hid hz1
    clear hd1 hl1 hz1
    go_wp2_with fail
    refine (HR.out w1).mono ?_
    rintro e w2 ⟨hb2, hcase2⟩
    have HB2 := Lib.hid hb2
    clear hb2 HR
    rcases hcase2 with ⟨v2, l2, rfl, hd2, hl2, ho2⟩ | ⟨l2, z2, rfl, hz2, hd2, hl2⟩ | ⟨rfl, hno2⟩
    · obtain rfl := HD1.out.inj hd2
      exact absurd (HE1.out.symm.trans hl2) HZ.out
    · obtain rfl := HD1.out.inj hd2
      obtain rfl : z1 = z2 := HE1.out.symm.trans hl2
      have HB12 := Lib.hid (bcall HB1.out HB2.out)
      clear hz2 hd2 hl2
      go_wp2_with fail
      refine (wawake_any w2 (HT.out.below HB12.out)).mono ?_
      rintro e w3 ⟨rfl, hb3⟩
      have HB3 := Lib.hid (bcall HB12.out hb3)
      clear hb3
      have HNU := Lib.hid (numbers_any none none 0 0 w3.heap.size [] [] w3 Sl.empty Sl.empty (by simp))
      rw [same_self] at HNU
      go_wp2_with fail
      refine HNU.out.mono ?_
      rintro e w4 ⟨rfl, k4, rfl⟩
      have HB4 := Lib.hid (below_drewN HB3.out k4)
      go_wp2_with fail
      go_ret
      exact ⟨rfl, HB4.out⟩
    · exact absurd HD1.out (hno2 l1)
  · have HNO := Lib.hid hno1
    clear hno1
    go_wp2_with fail
    refine (HR.out w1).mono ?_
    rintro e w2 ⟨hb2, hcase2⟩
    have HB2 := Lib.hid hb2
    clear hb2 HR
    rcases hcase2 with ⟨v2, l2, rfl, hd2, hl2, ho2⟩ | ⟨l2, z2, rfl, hz2, hd2, hl2⟩ | ⟨rfl, hno2⟩
    · exact absurd hd2 (HNO.out l2)
    · exact absurd hd2 (HNO.out l2)
    · have HB12 := Lib.hid (bcall HB1.out HB2.out)
      clear hno2
      go_wp2_with fail
      refine (wawake_any w2 (HT.out.below HB12.out)).mono ?_
      rintro e w3 ⟨rfl, hb3⟩
      have HB3 := Lib.hid (bcall HB12.out hb3)
      clear hb3
      have HNU := Lib.hid (numbers_any none none 0 0 w3.heap.size [] [] w3 Sl.empty Sl.empty (by simp))
      rw [same_self] at HNU
      go_wp2_with fail
      refine HNU.out.mono ?_
      rintro e w4 ⟨rfl, k4, rfl⟩
      have HB4 := Lib.hid (below_drewN HB3.out k4)
      go_wp2_with fail
      go_ret
      exact ⟨rfl, HB4.out⟩
theorem wletters_walkc (w : World) {H : Type} (s : ByteArray) (_ : s.size ≤ maxLen) (_ : s.data.toList.length ≤ reachBytes) (m : ByteArray) (_ : m.size ≤ maxLen) (_ : m.data.toList.length ≤ reachBytes) (hk : Rows.uptoSmall H ([.lit (.string s.data.toList), .lit (.string m.data.toList)] ++ []) = true) (hT : Tab w) :
    Calls Tryd.prog 4 #[.string s, .string m] w fun e w' => e = .returned (.bool true) ∧ Below w.heap.size w w' := wletters_walk w s.data.toList m.data.toList (upto_two hk).1 (upto_two hk).2 hT
end Go.Proofs.YtclahhkcbkpofaaDoor
/- The reference's Begins: does a list begin with another one? -/
namespace Go.Proofs.YtclahhkcbkpofaaDoor
open Go.RowKit
set_option linter.unusedVariables false
theorem pre_none {l h : List Int} {j : Nat} (hj : j < h.length) (hl : l.length ≤ j) : decide (h <+: l) = false := by
  rw [decide_eq_false_iff_not]
  intro e
  have := e.length_le
  omega
theorem pre_diff {l h : List Int} {j : Nat} {a b : Int} (ha : l[j]? = some a) (hb : h[j]? = some b) (hab : a ≠ b) : decide (h <+: l) = false := by
  rw [decide_eq_false_iff_not]
  rintro ⟨r, e⟩
  have h1 := (List.getElem?_eq_some_iff.1 hb).1
  rw [← e, List.getElem?_append_left h1, hb] at ha
  injection ha with ha
  exact hab ha.symm
theorem pre_step {l h : List Int} {j : Nat} {a : Int} (hp : h.take j <+: l) (ha : l[j]? = some a) (hb : h[j]? = some a) : h.take (j + 1) <+: l := by
  obtain ⟨h1, e1⟩ := List.getElem?_eq_some_iff.1 hb
  obtain ⟨h2, e2⟩ := List.getElem?_eq_some_iff.1 ha
  have h3 : (h.take j).length = j := by rw [List.length_take]; omega
  have e3 := List.prefix_iff_eq_take.1 hp
  rw [h3] at e3
  rw [List.take_succ_eq_append_getElem h1, e1, e3, ← e2, ← List.take_succ_eq_append_getElem h2]
  exact List.take_prefix _ _
set_option maxRecDepth 100000 in
set_option maxHeartbeats 8000000 in
theorem begins_any (w : World) (B : Nat) (hB : B ≤ w.heap.size) (A1 A2 : Option Addr) (n1 n2 c1 c2 : Nat) (l h : List Int) (h1 : Sl w B 1 A1 n1 (l.map (.int .i64))) (h2 : Sl w B 1 A2 n2 (h.map (.int .i64))) (hn1 : n1 ≤ 17592186044416) (hn2 : n2 ≤ 1000000) :
    Calls Tryd.prog 30 #[.slice A1 n1 c1, .slice A2 n2 c2] w fun e w' => e = .returned (.bool (decide (h <+: l))) ∧ Below w.heap.size w w' := by
  have HL1 : Hid (l.length = n1) := by have := h1.1; show _ = _; simpa using this
  have HL2 : Hid (h.length = n2) := by have := h2.1; show _ = _; simpa using this
  have HS1 := Lib.hid h1
  have HS2 := Lib.hid h2
  clear h1 h2
  go_enter Tryd.func30, Tryd.ntmps30
  go_wp2_with fail
  go_loopw [5] (fun iv wr => ∃ j : Nat, j ≤ n2 ∧ iv = .int .i64 (j : Int) ∧ Hid (Below w.heap.size w wr) ∧ Hid (h.take j <+: l)) (fun iv _ => n2 - (intOf iv).toNat)
  case atStart => exact ⟨0, Nat.zero_le _, rfl, brefl w, Lib.hid (by simp)⟩
  case round =>
    obtain ⟨j, hj, rfl, HB, HP⟩ := hrel
    by_cases hjn : j < n2
    · have hq : decide (j < n2) = true := decide_eq_true hjn
      obtain ⟨b, hb⟩ : ∃ b, h[j]? = some b := ⟨h[j]'(by rw [HL2.out]; exact hjn), List.getElem?_eq_getElem _⟩
      by_cases hjl : j < n1
      · obtain ⟨a, ha⟩ : ∃ a, l[j]? = some a := ⟨l[j]'(by rw [HL1.out]; exact hjl), List.getElem?_eq_getElem _⟩
        obtain ⟨g1, o1, rfl, hg1, k1⟩ := (HS1.out.below (HB.out.mono hB)).at_ hjl
        obtain ⟨g2, o2, rfl, hg2, k2⟩ := (HS2.out.below (HB.out.mono hB)).at_ hjn
        have r1 := k1 j (.int .i64 a) (by rw [List.getElem?_map, ha]; rfl)
        have r2 := k2 j (.int .i64 b) (by rw [List.getElem?_map, hb]; rfl)
        have b1 : g1 < wr.heap.size := Nat.lt_of_lt_of_le hg1 (Nat.le_trans hB HB.out.size)
        have b2 : g2 < wr.heap.size := Nat.lt_of_lt_of_le hg2 (Nat.le_trans hB HB.out.size)
        have p1 : decide ((j : Int) ≥ (n1 : Int)) = false := decide_eq_false (by omega)
        have p2 : decide (j ≥ n1) = false := decide_eq_false (by omega)
        have p3 : decide (n1 ≤ j) = false := decide_eq_false (by omega)
        by_cases hab : a = b
        · subst hab
          have HPN := Lib.hid (pre_step HP.out ha hb)
          have hne : (a != a) = false := by simp
          clear k1 k2 ha hb
          go_wp2_with fail
          go_region
          go_wp2_with fail
          go_roundw
          case rel => exact ⟨j + 1, by omega, by go_num, HB.out.drew, HPN⟩
          case measure => simp [intOf]; omega
        · have HF := Lib.hid (pre_diff ha hb hab)
          have hne : (a != b) = true := by rw [bne_iff_ne]; exact hab
          clear k1 k2 ha hb hab
          go_wp2_with fail
          go_region
          go_wp2_with fail
          go_ret
          exact ⟨by rw [HF.out]; rfl, HB.out.drew⟩
      · have HF := Lib.hid (pre_none (l := l) (h := h) (j := j) (by rw [HL2.out]; exact hjn) (by rw [HL1.out]; omega))
        have p1 : decide ((j : Int) ≥ (n1 : Int)) = true := decide_eq_true (by omega)
        have p2 : decide (j ≥ n1) = true := decide_eq_true (by omega)
        have p3 : decide (n1 ≤ j) = true := decide_eq_true (by omega)
        clear hb
        go_wp2_with fail
        go_region
        go_wp2_with fail
        go_ret
        exact ⟨by rw [HF.out]; rfl, HB.out.drew⟩
    · obtain rfl : j = n2 := by omega
      have hq : decide (j < j) = false := decide_eq_false hjn
      have HT : Hid (decide (h <+: l) = true) := by
        have := HP.out
        rw [← HL2.out, List.take_length] at this
        exact decide_eq_true this
      go_wp2_with fail
      go_ret
      exact ⟨by rw [HT.out]; rfl, HB.out⟩
end Go.Proofs.YtclahhkcbkpofaaDoor
/- Arguments of texts. -/
namespace Go.Proofs.YtclahhkcbkpofaaDoor
open Go.RowKit Go.Maps
theorem ty_texts : tyOf Tryd.prog 8 45 = some (.slice .str 16) := by kernel_rfl
/-- An argument of texts. -/
structure TextsIn (w : World) (A : Option Addr) (n c : Nat) (x : Nat → ByteArray) : Prop where
  nc : n ≤ c
  cm : c ≤ maxLen
  rb : n * 16 ≤ reachBytes
  sl : Sl w w.heap.size 1 A n ((List.range n).map fun i => .string (x i))
  sz : ∀ i, i < n → (x i).size ≤ reachBytes
theorem texts_in {w : World} {A : Option Addr} {n c : Nat} {x : Nat → Ty.str.den} {cs : List Value} (h : Reads w w.heap.size (.slice .str 16) (⟨A, n, c⟩, x) cs) : TextsIn w A n c x := by
  have hs := h.sl (e := .str) (fun d => rfl)
  refine ⟨h.2.1.1, h.2.1.2.1, h.2.1.2.2.1, ?_, fun i hi => ?_⟩
  · have e : ((List.range n).flatMap fun i => Ty.cells .str (x i)) = (List.range n).map fun i => .string (x i) := by
      rw [List.map_eq_flatMap]
      rfl
    rw [← e]
    exact hs
  · obtain ⟨cl, z, hz, _, h1, h2⟩ := h.elem hi
    have hz' : (x i : ByteArray) = z := hz
    rw [hz']
    exact h2
/-- One of the texts. -/
theorem TextsIn.get {w W : World} {A : Option Addr} {n c : Nat} {x : Nat → ByteArray} (h : TextsIn w A n c x) (hb : Below w.heap.size w W) {i : Nat} (hi : i < n) : ∃ b off t, A = some ⟨b, off, none⟩ ∧ b < W.heap.size ∧ x i = ⟨(t : List UInt8).toArray⟩ ∧ t.length ≤ 1125899906842624 ∧ W.cell? ⟨b, off + i, none⟩ = some (.string ⟨t.toArray⟩) := by
  obtain ⟨b, off, hA, hb0, hcell⟩ := h.sl.at_ hi
  have hc0 := hcell i (.string (x i)) (by rw [List.getElem?_map, List.getElem?_range hi]; rfl)
  have ht : x i = ⟨(x i).data.toList.toArray⟩ := by cases x i; simp
  refine ⟨b, off, (x i).data.toList, hA, Nat.lt_of_lt_of_le hb0 hb.size, ht, ?_, ?_⟩
  · have h1 := h.sz i hi
    have h2 : (x i).data.toList.length = (x i).size := rfl
    rw [h2]
    unfold reachBytes at h1
    omega
  · rw [← ht]
    exact (hb.cell (p := ⟨b, off + i, none⟩) hb0).trans hc0
end Go.Proofs.YtclahhkcbkpofaaDoor
/- Arguments of texts, of a bounded bulk. -/
namespace Go.Proofs.YtclahhkcbkpofaaDoor
open Go.RowKit Go.Maps
/-- An argument of texts that are not too long. -/
structure TextsB (w : World) (A : Option Addr) (n c : Nat) (x : Nat → ByteArray) : Prop where
  ok : TextsIn w A n c x
  few : ∀ i, i < n → (x i).size ≤ 1048576
theorem textsb_in {w : World} {A : Option Addr} {n c : Nat} {x : Nat → Ty.str.den} {cs : List Value} (h : Reads w w.heap.size (.slice .str 16) (⟨A, n, c⟩, x) cs) (_ : n ≤ 1048576) (hf : ∀ i, i < n → Few 1048576 .str (x i)) : TextsB w A n c x := ⟨texts_in h, fun i hi => hf i hi⟩
theorem TextsB.get {w W : World} {A : Option Addr} {n c : Nat} {x : Nat → ByteArray} (h : TextsB w A n c x) (hb : Below w.heap.size w W) {i : Nat} (hi : i < n) : ∃ b off t, A = some ⟨b, off, none⟩ ∧ b < W.heap.size ∧ (t : List UInt8).length ≤ 1048576 ∧ W.cell? ⟨b, off + i, none⟩ = some (.string ⟨t.toArray⟩) := by
  obtain ⟨b, off, t, h1, h2, h3, _, h5⟩ := h.ok.get hb hi
  refine ⟨b, off, t, h1, h2, ?_, h5⟩
  have h6 := h.few i hi
  rw [h3] at h6
  exact h6
end Go.Proofs.YtclahhkcbkpofaaDoor
