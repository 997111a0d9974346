/- The walk of FuzzyMetric. -/
import Derived.Test.YtclahhkcbkpofaaDoorHFz46
import Derived.Test.YtclahhkcbkpofaaDoorHFz48
import Derived.Test.YtclahhkcbkpofaaDoorHFz37
namespace Go.Proofs.YtclahhkcbkpofaaDoor
open Go.RowKit
open Sp
set_option linter.unusedVariables false
set_option linter.unusedSimpArgs false
theorem take_more {a b : List Int} {i : Nat} {x y : Int} (hx : a[i]? = some x) (hy : b[i]? = some y) : (a.take (i + 1) = b.take (i + 1)) ↔ (a.take i = b.take i ∧ x = y) := by
  rw [List.take_add_one, List.take_add_one, hx, hy]
  simp only [Option.toList_some]
  have h1 := (List.getElem?_eq_some_iff.1 hx).1
  have h2 := (List.getElem?_eq_some_iff.1 hy).1
  constructor
  · intro h
    have h3 := List.append_inj h (by rw [List.length_take, List.length_take]; omega)
    exact ⟨h3.1, by simpa using h3.2⟩
  · rintro ⟨h, rfl⟩
    rw [h]
theorem take_full {a b : List Int} {i : Nat} (h : ¬ (i < a.length ∧ i < b.length)) : (a.length = b.length ∧ a.take i = b.take i) ↔ a = b := by
  constructor
  · rintro ⟨h1, h2⟩
    rwa [List.take_of_length_le (by omega), List.take_of_length_le (by omega)] at h2
  · rintro rfl
    exact ⟨rfl, rfl⟩
set_option maxRecDepth 100000 in
set_option maxHeartbeats 8000000 in
theorem fmet_walk (w : World) (A1 : Option Addr) (m c1 : Nat) (A2 : Option Addr) (n c2 : Nat) (A3 : Option Addr) (k c3 : Nat) (a b c : List Int) (h1 : IntsIn w A1 m c1 a) (h2 : IntsIn w A2 n c2 b) (h3 : IntsIn w A3 k c3 c) (hT : Tab w) :
    Calls Tryd.prog 7 #[.slice A1 m c1, .slice A2 n c2, .slice A3 k c3] w fun e w' => e = .returned (.bool true) ∧ Below w.heap.size w w' := by
  have HA := Lib.hid (fawake_any w hT)
  have HT := Lib.hid hT
  have HS1 := Lib.hid h1.sl
  have HS2 := Lib.hid h2.sl
  have HS3 := Lib.hid h3.sl
  have HL1 := Lib.hid h1.len
  have HL2 := Lib.hid h2.len
  have HL3 := Lib.hid h3.len
  have hc1 := h1.cm
  have hc2 := h2.cm
  have hc3 := h3.cm
  have hn1 := h1.nc
  have hn2 := h2.nc
  have hn3 := h3.nc
  clear hT h1 h2 h3
  go_enter Tryd.func7, Tryd.ntmps7
  go_wp2_with fail
  refine HA.out.mono ?_
  rintro e w1 ⟨rfl, hb1⟩
  have HB1 := Lib.hid hb1
  have HT1 := Lib.hid (HT.out.below hb1)
  clear hb1 HA
  by_cases hbig : m ≤ 40 ∧ n ≤ 40 ∧ k ≤ 40
  · obtain ⟨hm, hn, hk⟩ := hbig
    have qm : decide (40 < m) = false := decide_eq_false (by omega)
    have qn : decide (40 < n) = false := decide_eq_false (by omega)
    have qk : decide (40 < k) = false := decide_eq_false (by omega)
    go_wp2_with fail
    refine (distance_any w1 w.heap.size HB1.out.size A1 A2 m n c1 c2 a b (HS1.out.below HB1.out) (HS2.out.below HB1.out) (by omega) (by omega)).mono ?_
    rintro e w2 ⟨rfl, hb2⟩
    have HB2 := Lib.hid (bcall HB1.out hb2)
    clear hb2
    go_wp2_with fail
    refine (distance_any w2 w.heap.size HB2.out.size A2 A3 n k c2 c3 b c (HS2.out.below HB2.out) (HS3.out.below HB2.out) (by omega) (by omega)).mono ?_
    rintro e w3 ⟨rfl, hb3⟩
    have HB3 := Lib.hid (bcall HB2.out hb3)
    clear hb3
    go_wp2_with fail
    refine (distance_any w3 w.heap.size HB3.out.size A1 A3 m k c1 c3 a c (HS1.out.below HB3.out) (HS3.out.below HB3.out) (by omega) (by omega)).mono ?_
    rintro e w4 ⟨rfl, hb4⟩
    have HB4 := Lib.hid (bcall HB3.out hb4)
    clear hb4
    obtain ⟨x, hx⟩ : ∃ x, lev a b = x := ⟨_, rfl⟩
    obtain ⟨y, hy⟩ : ∃ y, lev b c = y := ⟨_, rfl⟩
    obtain ⟨z, hz⟩ : ∃ z, lev a c = z := ⟨_, rfl⟩
    have HX := Lib.hid hx
    have HY := Lib.hid hy
    have HZ := Lib.hid hz
    have hxm : x ≤ max m n := by rw [← hx, ← HL1.out, ← HL2.out]; exact lev_max a b
    have hym : y ≤ max n k := by rw [← hy, ← HL2.out, ← HL3.out]; exact lev_max b c
    rw [hx, hy, hz]
    clear hx hy hz
    go_wp2_with fail
    go_loopw [10, 11] (fun fv iv wr => ∃ (i : Nat) (s : Bool), i ≤ m ∧ i ≤ n ∧ iv = .int .i64 (i : Int) ∧ fv = .bool s ∧ Hid (s = decide (m = n ∧ a.take i = b.take i)) ∧ Hid (Below w.heap.size w wr)) (fun _ iv _ => m + 1 - (intOf iv).toNat)
    case atStart => exact ⟨0, _, Nat.zero_le _, Nat.zero_le _, rfl, rfl, (by show _ = _; rw [Bool.eq_iff_iff]; simp; omega), HB4⟩
    case round =>
      obtain ⟨i, s, him, hin, rfl, rfl, HSM, HBR⟩ := hrel
      by_cases hlt : i < m ∧ i < n
      · obtain ⟨g1, g2⟩ := hlt
        have q1 : decide (i < m) = true := decide_eq_true g1
        have q2 : decide (i < n) = true := decide_eq_true g2
        have e1 := HL1.out
        have e2 := HL2.out
        obtain ⟨x', hx'⟩ : ∃ x, a[i]? = some x := ⟨_, List.getElem?_eq_getElem (by omega)⟩
        obtain ⟨y', hy'⟩ : ∃ x, b[i]? = some x := ⟨_, List.getElem?_eq_getElem (by omega)⟩
        have HX' := Lib.hid hx'
        have HY' := Lib.hid hy'
        obtain ⟨ab, ao, rfl, ha0, hca⟩ := HS1.out.at_ g1
        obtain ⟨bb, bo, rfl, hb0, hcb⟩ := HS2.out.at_ g2
        have ka := (HBR.out.cell (p := ⟨ab, ao + i, none⟩) ha0).trans (hca i (.int .i64 x') (by rw [List.getElem?_map, hx']; rfl))
        have kb := (HBR.out.cell (p := ⟨bb, bo + i, none⟩) hb0).trans (hcb i (.int .i64 y') (by rw [List.getElem?_map, hy']; rfl))
        clear e1 e2 hx' hy' ha0 hb0 hca hcb
        cases s
        · go_wp2_with fail
          refine wp_region_held_drew (S := fun w' => w'.cell? ⟨ab, ao + i, none⟩ = some (.int .i64 x') ∧ w'.cell? ⟨bb, bo + i, none⟩ = some (.int .i64 y')) (by kernel_rfl) ?_ (fun hHeld => ?_)
          · (try dsimp only); (first | assumption | exact ⟨ka, kb⟩)
          refine wpAnyH_take (i := 0) (v := ?_) rfl (by kernel_rfl) (by kernel_rfl) (by kernel_rfl) (fun _ _ _ h => h) (Or.inl ⟨by rfl, ?_⟩) (by assumption) ?_
          rotate_left
          · intro w hSw; (try dsimp only at hSw); go_simp; (try with_reducible rfl)
          try simp only [Act.put, List.setIfInBounds_toArray, List.set_cons_zero, List.set_cons_succ]
          refine wpAnyH_take (i := 1) (v := ?_) rfl (by kernel_rfl) (by kernel_rfl) (by kernel_rfl) (fun _ _ _ h => h) (Or.inl ⟨by rfl, ?_⟩) (by assumption) ?_
          rotate_left
          · intro w hSw; (try dsimp only at hSw); go_simp; (try with_reducible rfl)
          try simp only [Act.put, List.setIfInBounds_toArray, List.set_cons_zero, List.set_cons_succ]
          refine wpAnyH_take (i := 2) (v := undef) rfl (by kernel_rfl) (by kernel_rfl) (by kernel_rfl) (fun _ _ _ h => h) (Or.inr ⟨by kernel_rfl, rfl⟩) (by assumption) ?_
          try simp only [Act.put, List.setIfInBounds_toArray, List.set_cons_zero, List.set_cons_succ]
          refine wpAnyH_take (i := 3) (v := undef) rfl (by kernel_rfl) (by kernel_rfl) (by kernel_rfl) (fun _ _ _ h => h) (Or.inr ⟨by kernel_rfl, rfl⟩) (by assumption) ?_
          try simp only [Act.put, List.setIfInBounds_toArray, List.set_cons_zero, List.set_cons_succ]
          refine wpAnyH_take (i := 4) (v := undef) rfl (by kernel_rfl) (by kernel_rfl) (by kernel_rfl) (fun _ _ _ h => h) (Or.inr ⟨by kernel_rfl, rfl⟩) (by assumption) ?_
          try simp only [Act.put, List.setIfInBounds_toArray, List.set_cons_zero, List.set_cons_succ]
          refine wpAnyH_take (i := 5) (v := undef) rfl (by kernel_rfl) (by kernel_rfl) (by kernel_rfl) (fun _ _ _ h => h) (Or.inr ⟨by kernel_rfl, rfl⟩) (by assumption) ?_
          try simp only [Act.put, List.setIfInBounds_toArray, List.set_cons_zero, List.set_cons_succ]
          refine wpAnyH_take (i := 6) (v := undef) rfl (by kernel_rfl) (by kernel_rfl) (by kernel_rfl) (fun _ _ _ h => h) (Or.inr ⟨by kernel_rfl, rfl⟩) (by assumption) ?_
          try simp only [Act.put, List.setIfInBounds_toArray, List.set_cons_zero, List.set_cons_succ]
          refine wpAnyH_take (i := 7) (v := undef) rfl (by kernel_rfl) (by kernel_rfl) (by kernel_rfl) (fun _ _ _ h => h) (Or.inr ⟨by kernel_rfl, rfl⟩) (by assumption) ?_
          try simp only [Act.put, List.setIfInBounds_toArray, List.set_cons_zero, List.set_cons_succ]
          refine wpAnyH_take (i := 8) (v := undef) rfl (by kernel_rfl) (by kernel_rfl) (by kernel_rfl) (fun _ _ _ h => h) (Or.inr ⟨by kernel_rfl, rfl⟩) (by assumption) ?_
          try simp only [Act.put, List.setIfInBounds_toArray, List.set_cons_zero, List.set_cons_succ]
          refine wpAnyH_take (i := 9) (v := undef) rfl (by kernel_rfl) (by kernel_rfl) (by kernel_rfl) (fun _ _ _ h => h) (Or.inr ⟨by kernel_rfl, rfl⟩) (by assumption) ?_
          try simp only [Act.put, List.setIfInBounds_toArray, List.set_cons_zero, List.set_cons_succ]
          refine wpAnyH_take (i := 10) (v := undef) rfl (by kernel_rfl) (by kernel_rfl) (by kernel_rfl) (fun _ _ _ h => h) (Or.inr ⟨by kernel_rfl, rfl⟩) (by assumption) ?_
          try simp only [Act.put, List.setIfInBounds_toArray, List.set_cons_zero, List.set_cons_succ]
          refine wpAnyH_take (i := 11) (v := ?_) rfl (by kernel_rfl) (by kernel_rfl) (by kernel_rfl) (fun _ _ _ h => h) (Or.inl ⟨by rfl, ?_⟩) (by assumption) ?_
          rotate_left
          · intro w hSw; (try dsimp only at hSw); go_simp; (try with_reducible rfl)
          try simp only [Act.put, List.setIfInBounds_toArray, List.set_cons_zero, List.set_cons_succ]
          refine wpAnyH_take (i := 12) (v := ?_) rfl (by kernel_rfl) (by kernel_rfl) (by kernel_rfl) (fun _ _ _ h => h) (Or.inl ⟨by rfl, ?_⟩) (by assumption) ?_
          rotate_left
          · intro w hSw; (try dsimp only at hSw); go_simp; (try with_reducible rfl)
          try simp only [Act.put, List.setIfInBounds_toArray, List.set_cons_zero, List.set_cons_succ]
          refine wpAnyH_done (by kernel_rfl) ?_ _
          simp only [List.getElem_toArray, List.getElem_cons_zero, List.getElem_cons_succ, Act.put, List.setIfInBounds_toArray, List.set_cons_zero, List.set_cons_succ]
          have HSN : Hid (false = decide (m = n ∧ a.take (i + 1) = b.take (i + 1))) := by
            have h := HSM.out
            have ht := take_more HX'.out HY'.out
            show _ = _
            rw [eq_comm, decide_eq_false_iff_not] at h ⊢
            rintro ⟨h1, h2⟩
            exact h ⟨h1, (ht.1 h2).1⟩
          clear HSM
          go_wp2_with fail
          go_roundw
          case rel => exact ⟨i + 1, false, by omega, by omega, by go_num, rfl, HSN, HBR.out.drew⟩
          case measure => first | (simp [intOf]; done) | (simp [intOf]; omega)
        · go_wp2_with fail
          go_region_held3 (fun w' => w'.cell? ⟨ab, ao + i, none⟩ = some (.int .i64 x') ∧ w'.cell? ⟨bb, bo + i, none⟩ = some (.int .i64 y'))
            (first
              | assumption
              | exact ⟨ka, kb⟩)
            (first
              | (go_at_call 99999))
          have HSN : Hid ((x' == y') = decide (m = n ∧ a.take (i + 1) = b.take (i + 1))) := by
            have h := HSM.out
            have ht := take_more HX'.out HY'.out
            show _ = _
            rw [eq_comm, decide_eq_true_eq] at h
            rw [Bool.eq_iff_iff, beq_iff_eq, decide_eq_true_eq, ht]
            exact ⟨fun e => ⟨h.1, h.2, e⟩, fun e => e.2.2⟩
          clear HSM
          go_wp2_with fail
          go_roundw
          case rel => exact ⟨i + 1, x' == y', by omega, by omega, by go_num, rfl, HSN, HBR.out.drew⟩
          case measure => first | (simp [intOf]; done) | (simp [intOf]; omega)
      · have hsd : s = decide (x = 0) := by
          rw [HSM.out, ← HX.out]
          have h := take_full (a := a) (b := b) (i := i) (by rw [HL1.out, HL2.out]; exact hlt)
          rw [HL1.out, HL2.out] at h
          rw [Bool.eq_iff_iff, decide_eq_true_eq, decide_eq_true_eq, h, lev_zero]
        have hzt : z ≤ x + y := by rw [← HX.out, ← HY.out, ← HZ.out]; exact lev_trans a b c
        have hle := lev_len a b
        rw [HX.out, HL1.out, HL2.out] at hle
        subst hsd
        have HBA := Lib.hid (distance_any wr w.heap.size HBR.out.size A2 A1 n m c2 c1 b a (HS2.out.below HBR.out) (HS1.out.below HBR.out) (by omega) (by omega))
        rw [lev_symm b a, HX.out] at HBA
        clear HSM
        have f1 : decide (x + y < z) = false := decide_eq_false (by omega)
        have f2 : decide (max m n < x) = false := decide_eq_false (by omega)
        obtain ⟨p1, p2⟩ | p1 : (i < m ∧ ¬ i < n) ∨ ¬ i < m := by omega
        · clear hlt
          have q1 : decide (i < m) = true := decide_eq_true p1
          have q2 : decide (i < n) = false := decide_eq_false p2
          obtain rfl | hc : x = 0 ∨ x ≠ 0 := by omega
          · exfalso; omega
          · have q0 : decide (x = 0) = false := decide_eq_false hc
            have q4 : ((x : Int) == 0) = false := by rw [beq_eq_false_iff_ne]; omega
            have q5 : decide (max (m : Int) (n : Int) < (x : Int)) = false := decide_eq_false (by omega)
            have q6 : decide ((x : Int) + (y : Int) < (z : Int)) = false := decide_eq_false (by omega)
            have q3 : decide ((m : Int) - (n : Int) ≤ (x : Int)) = true := decide_eq_true (by omega)
            go_wp2_with fail
            refine HBA.out.mono ?_
            rintro e w5 ⟨rfl, hb5⟩
            have HB5 := Lib.hid (bcall HBR.out hb5)
            clear hb5 HBA
            go_wp2_with fail
            go_ret
            exact ⟨by first | rfl | (simp; done) | (simp; omega), HB5.out⟩
        · clear hlt
          have q1 : decide (i < m) = false := decide_eq_false p1
          obtain rfl | hc : x = 0 ∨ x ≠ 0 := by omega
          · have q3 : decide ((m : Int) - (n : Int) ≤ 0) = true := decide_eq_true (by omega)
            go_wp2_with fail
            refine HBA.out.mono ?_
            rintro e w5 ⟨rfl, hb5⟩
            have HB5 := Lib.hid (bcall HBR.out hb5)
            clear hb5 HBA
            go_wp2_with fail
            go_ret
            exact ⟨by first | rfl | (simp; done) | (simp; omega), HB5.out⟩
          · have q0 : decide (x = 0) = false := decide_eq_false hc
            have q4 : ((x : Int) == 0) = false := by rw [beq_eq_false_iff_ne]; omega
            have q5 : decide (max (m : Int) (n : Int) < (x : Int)) = false := decide_eq_false (by omega)
            have q6 : decide ((x : Int) + (y : Int) < (z : Int)) = false := decide_eq_false (by omega)
            have q3 : decide ((m : Int) - (n : Int) ≤ (x : Int)) = true := decide_eq_true (by omega)
            go_wp2_with fail
            refine HBA.out.mono ?_
            rintro e w5 ⟨rfl, hb5⟩
            have HB5 := Lib.hid (bcall HBR.out hb5)
            clear hb5 HBA
            go_wp2_with fail
            go_ret
            exact ⟨by first | rfl | (simp; done) | (simp; omega), HB5.out⟩
  · obtain hsm | ⟨hsm, hsn⟩ | ⟨hsm, hsn, hsk⟩ : ¬ m ≤ 40 ∨ (m ≤ 40 ∧ ¬ n ≤ 40) ∨ (m ≤ 40 ∧ n ≤ 40 ∧ ¬ k ≤ 40) := by omega
    · have qm : decide (40 < m) = true := decide_eq_true (by omega)
      go_wp2_with fail
      refine (fawake_any w1 HT1.out).mono ?_
      rintro e w2 ⟨rfl, hb2⟩
      have HB2 := Lib.hid (bcall HB1.out hb2)
      clear hb2
      go_wp2_with fail
      go_ret
      exact ⟨rfl, HB2.out⟩
    · have qm : decide (40 < m) = false := decide_eq_false (by omega)
      have qn : decide (40 < n) = true := decide_eq_true (by omega)
      go_wp2_with fail
      refine (fawake_any w1 HT1.out).mono ?_
      rintro e w2 ⟨rfl, hb2⟩
      have HB2 := Lib.hid (bcall HB1.out hb2)
      clear hb2
      go_wp2_with fail
      go_ret
      exact ⟨rfl, HB2.out⟩
    · have qm : decide (40 < m) = false := decide_eq_false (by omega)
      have qn : decide (40 < n) = false := decide_eq_false (by omega)
      have qk : decide (40 < k) = true := decide_eq_true (by omega)
      go_wp2_with fail
      refine (fawake_any w1 HT1.out).mono ?_
      rintro e w2 ⟨rfl, hb2⟩
      have HB2 := Lib.hid (bcall HB1.out hb2)
      clear hb2
      go_wp2_with fail
      go_ret
      exact ⟨rfl, HB2.out⟩
open Go.Maps in
theorem fmet_walkc (w : World) (A1 : Option Addr) (m c1 : Nat) (x1 : Nat → (Ty.int .i64).den) (h1 : IntsIn w A1 m c1 (intsOf m x1)) (A2 : Option Addr) (n c2 : Nat) (x2 : Nat → (Ty.int .i64).den) (h2 : IntsIn w A2 n c2 (intsOf n x2)) (A3 : Option Addr) (k c3 : Nat) (x3 : Nat → (Ty.int .i64).den) (h3 : IntsIn w A3 k c3 (intsOf k x3)) (hT : Tab w) :
    Calls Tryd.prog 7 #[.slice A1 m c1, .slice A2 n c2, .slice A3 k c3] w fun e w' => e = .returned (.bool true) ∧ Below w.heap.size w w' := fmet_walk w A1 m c1 A2 n c2 A3 k c3 _ _ _ h1 h2 h3 hT
end Go.Proofs.YtclahhkcbkpofaaDoor
/- The reference's Letters. -/
namespace Go.Proofs.YtclahhkcbkpofaaDoor
open Go.RowKit
open Sp
set_option linter.unusedVariables false
set_option maxRecDepth 100000 in
set_option maxHeartbeats 8000000 in
theorem rletters_any (w : World) (t m : List UInt8) (ht : t.length ≤ 17592186044414) (hm : m.length ≤ 17592186044414) : Calls Tryd.prog 18 #[.string ⟨t.toArray⟩, .string ⟨m.toArray⟩] w (LetsP w t m) := by
  have HD := Lib.hid (rfolded_any w t ht)
  have hz : (⟨m.toArray⟩ : ByteArray).size = m.length := by show m.toArray.size = _; simp
  have HBY := Lib.hid (fun j b h => @mark_at m j b h)
  obtain ⟨M, hM⟩ : ∃ M, m.length = M := ⟨_, rfl⟩
  rw [hM] at hz hm
  have HML := Lib.hid hM
  clear hM ht
  go_enter Tryd.func18, Tryd.ntmps18
  go_wp2_with fail
  refine HD.out.mono ?_
  rintro e w1 ⟨hb1, ⟨v, l, rfl, hd1, ho1⟩ | ⟨rfl, hno⟩⟩
  · have HB1 := Lib.hid hb1
    obtain ⟨A, cp, rfl, hcp⟩ := own_shape ho1
    obtain ⟨f, hf⟩ : ∃ f, l.map foldI = f := ⟨_, rfl⟩
    have hfl : f.length = l.length := by rw [← hf, List.length_map]
    obtain ⟨n, hn⟩ : ∃ n, l.length = n := ⟨_, rfl⟩
    have HPB : Hid (∀ z : Int, z ≠ 0 → letsE f m = z → ∀ W, Below w1.heap.size w1 W → LetsP w t m (.returned (.tuple #[.slice none 0 0, .int .i64 z])) W) := fun z hz h W hW => ⟨bcall hb1 hW, .inr (.inl ⟨l, z, rfl, hz, hd1, by rw [hf]; exact h⟩)⟩
    have HPO : Hid (letsE f m = 0 → ∀ W, Below w1.heap.size w1 W → LetsP w t m (.returned (.tuple #[.slice A n cp, .int .i64 0])) W) := fun h W hW => ⟨bcall hb1 hW, .inl ⟨.slice A n cp, l, rfl, hd1, by rw [hf]; exact h, by have := own_kept ho1 hW; rwa [hn] at this ⊢⟩⟩
    rw [hf, hn] at ho1
    rw [hn] at hfl hcp ⊢
    have HO1 := Lib.hid (Sl.of_own ho1)
    have HFL := Lib.hid hfl
    clear hb1 hd1 ho1 hn HD hf hfl
    by_cases c1 : 16 < n
    · have HX := Lib.hid (HPB.out 4 (by omega) (by unfold letsE; rw [if_pos (by rw [HFL.out]; exact c1)]) w1 (brefl w1))
      have q1 : decide (16 < n) = true := decide_eq_true c1
      have q2 : decide ((n : Int) > 16) = true := decide_eq_true (by omega)
      go_wp2_with fail
      go_ret2
      exact HX.out
    have q1 : decide (16 < n) = false := decide_eq_false c1
    have q2 : decide ((n : Int) > 16) = false := decide_eq_false (by omega)
    by_cases c2 : n = 0
    · have HX := Lib.hid (HPB.out 20 (by omega) (by unfold letsE; rw [HFL.out, if_neg c1, if_pos c2]) w1 (brefl w1))
      subst c2
      go_wp2_with fail
      go_ret2
      exact HX.out
    have q3 : ((n : Int) == 0) = false := by rw [beq_eq_false_iff_ne]; omega
    have q4 : (n == 0) = false := by rw [beq_eq_false_iff_ne]; exact c2
    have HNB : Hid (f.all (okC m) = false → letsE f m = 20) := fun h => by unfold letsE; rw [HFL.out, if_neg c1, if_neg c2, h]; rfl
    have HNG : Hid (f.all (okC m) = true → letsE f m = 0) := fun h => by unfold letsE; rw [HFL.out, if_neg c1, if_neg c2, h]; rfl
    have hn16 : n ≤ 16 := by omega
    clear c1
    go_wp2_with fail
    go_loopw [8] (fun iv wr => ∃ j : Nat, j ≤ n ∧ iv = .int .i64 (j : Int) ∧ Hid (Below w1.heap.size w1 wr) ∧ Hid ((f.take j).all (okC m) = true)) (fun iv _ => n - (intOf iv).toNat)
    case atStart => exact ⟨0, Nat.zero_le _, rfl, brefl w1, rfl⟩
    case round =>
      obtain ⟨j, hj, rfl, HB, HA⟩ := hrel
      by_cases hjn : j < n
      · obtain ⟨c, hc⟩ : ∃ c, f[j]? = some c := ⟨f[j]'(by rw [HFL.out]; exact hjn), List.getElem?_eq_getElem _⟩
        obtain ⟨b0, off, rfl, hb0, hcl0⟩ := HO1.out.at_ hjn
        have HCE : Hid (∀ W, Below w1.heap.size w1 W → W.cell? ⟨b0, off + j, none⟩ = some (.int .i64 c) ∧ b0 < W.heap.size) := fun W hW => ⟨(hW.cell (p := ⟨b0, off + j, none⟩) hb0).trans (hcl0 j (.int .i64 c) (by rw [List.getElem?_map, hc]; rfl)), Nat.lt_of_lt_of_le hb0 hW.size⟩
        obtain ⟨r0, hbw⟩ := HCE.out wr HB.out
        have hq : decide (j < n) = true := decide_eq_true hjn
        have HC := Lib.hid hc
        clear hc hcl0
        go_wp2_with fail
        refine (rletter_any c _).mono ?_
        rintro e w2 ⟨rfl, hb2⟩
        have HB2 := Lib.hid (bcall HB.out hb2)
        clear hb2 r0 hbw HB
        go_wp2_with fail
        go_loopw [9, 10] (fun okv iv w3 => ∃ k : Nat, k ≤ M ∧ iv = .int .i64 (k : Int) ∧ okv = .bool (letB c || (m.take k).any fun b => c == (b.toNat : Int)) ∧ Hid (Below w1.heap.size w1 w3)) (fun _ iv _ => M - (intOf iv).toNat)
        case atStart => exact ⟨0, Nat.zero_le _, rfl, by simp, HB2⟩
        case round =>
          obtain ⟨k, hk, rfl, rfl, HB3⟩ := hrel
          clear HB2
          obtain ⟨r0, hbw⟩ := HCE.out wr HB3.out
          obtain ⟨ob, hob⟩ : ∃ ob, (letB c || (m.take k).any fun b => c == (b.toNat : Int)) = ob := ⟨_, rfl⟩
          have HOB := Lib.hid hob
          simp only [hob]
          clear hob
          by_cases hkm : k < M
          · obtain ⟨b, hb⟩ : ∃ b, m[k]? = some b := ⟨m[k]'(by rw [HML.out]; exact hkm), List.getElem?_eq_getElem _⟩
            have hy := HBY.out k b hb
            obtain ⟨z, hzb⟩ : ∃ z : Int, (b.toNat : Int) = z := ⟨_, rfl⟩
            rw [hzb] at hy
            have hz0 : 0 ≤ z := by omega
            have hz1 : z ≤ 255 := by have := b.toNat_lt; omega
            obtain ⟨x, hx⟩ : ∃ x, (c == z) = x := ⟨_, rfl⟩
            have HON : Hid ((letB c || (m.take (k + 1)).any fun b => c == (b.toNat : Int)) = (ob || x)) := by
              show _ = _
              rw [any_take hb, ← Bool.or_assoc, HOB.out, hzb, hx]
            have hq2 : decide (k < M) = true := decide_eq_true hkm
            clear hb hzb HOB
            cases ob
            · go_wp2_with fail
              go_region
              go_wp2_with fail
              go_roundw
              case rel => exact ⟨k + 1, by omega, by go_num, by rw [HON.out]; simp, HB3.out.drew⟩
              case measure => simp [intOf]; omega
            · clear hx
              go_wp2_with fail
              go_region
              go_wp2_with fail
              go_roundw
              case rel => exact ⟨k + 1, by omega, by go_num, by rw [HON.out]; simp, HB3.out.drew⟩
              case measure => simp [intOf]; omega
          · obtain rfl : k = M := by omega
            have HOK : Hid (okC m c = ob) := by
              have := HOB.out
              rw [← HML.out, List.take_length] at this
              exact this
            have hq2 : decide (k < k) = false := decide_eq_false hkm
            clear HOB
            cases ob
            · have HX := Lib.hid (HPB.out 20 (by omega) (HNB.out (all_no (List.mem_of_getElem? HC.out) HOK.out)) wr HB3.out)
              go_wp2_with fail
              go_ret2
              exact HX.out
            · have HAN := Lib.hid (all_take HC.out HA.out HOK.out)
              go_wp2_with fail
              go_roundw
              case rel => exact ⟨j + 1, by omega, by go_num, HB3, HAN⟩
              case measure => simp [intOf]; omega
      · obtain rfl : j = n := by omega
        have HX := Lib.hid (HPO.out (HNG.out (by have := HA.out; rwa [← HFL.out, List.take_length] at this)) wr HB.out)
        have hq : decide (j < j) = false := decide_eq_false hjn
        go_wp2_with fail
        go_ret2
        exact HX.out
  · have HPOST : Hid (LetsP w t m (.returned (.tuple #[.slice none 0 0, .int .i64 7])) w1) := ⟨hb1, .inr (.inr ⟨rfl, hno⟩)⟩
    clear hb1 hno HD
    go_wp2_with fail
    go_ret2
    exact HPOST.out
end Go.Proofs.YtclahhkcbkpofaaDoor
