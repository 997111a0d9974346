/- wild.Letters and the reference's: the characters of a pattern, or the refusal. -/
import Derived.Test.YtclahhkcbkpofaaDoorHWd47
import Derived.Test.YtclahhkcbkpofaaDoorHWd42
import Derived.Test.YtclahhkcbkpofaaDoorHWd6
import Derived.Lib.Slices
import Derived.Test.YtclahhkcbkpofaaDoorHWd41
import Derived.Test.YtclahhkcbkpofaaDoorHWd43
namespace Go.Proofs.YtclahhkcbkpofaaDoor
open Go.RowKit
open Sp
set_option linter.unusedVariables false
/-- A character that may stand in a pattern. -/
def okC (m : List UInt8) (c : Int) : Bool := letB c || m.any fun b => c == (b.toNat : Int)
/-- What is answered of folded characters. -/
def letsE (l : List Int) (m : List UInt8) : Int := if 16 < l.length then 4 else if l.length = 0 then 20 else if l.all (okC m) then 0 else 20
/-- What Letters answers. -/
def LetsP (w : World) (t m : List UInt8) : Ending → World → Prop := fun e w' => Below w.heap.size w w' ∧
  ((∃ v l, e = .returned (.tuple #[v, .int .i64 0]) ∧ Dec (bytesN t) l ∧ letsE (l.map foldI) m = 0 ∧ w'.ownsRow w.heap.size 3 1 v l.length ((l.map foldI).map (.int .i64))) ∨
   (∃ l z, e = .returned (.tuple #[.slice none 0 0, .int .i64 z]) ∧ z ≠ 0 ∧ Dec (bytesN t) l ∧ letsE (l.map foldI) m = z) ∨
   (e = .returned (.tuple #[.slice none 0 0, .int .i64 7]) ∧ ∀ l, ¬ Dec (bytesN t) l))
theorem any_take {m : List UInt8} {c : Int} {j : Nat} {b : UInt8} (h : m[j]? = some b) : (m.take (j + 1)).any (fun b => c == (b.toNat : Int)) = ((m.take j).any (fun b => c == (b.toNat : Int)) || c == (b.toNat : Int)) := by
  obtain ⟨hj, rfl⟩ := List.getElem?_eq_some_iff.1 h
  rw [List.take_succ_eq_append_getElem hj, List.any_append]
  simp
theorem mark_at {m : List UInt8} {j : Nat} {b : UInt8} (h : m[j]? = some b) (h2 : j < (⟨m.toArray⟩ : ByteArray).size) : (((⟨m.toArray⟩ : ByteArray)[j]'h2).toNat : Int) = (b.toNat : Int) := by
  obtain ⟨hj, rfl⟩ := List.getElem?_eq_some_iff.1 h
  rfl
theorem all_take {l : List Int} {m : List UInt8} {j : Nat} {c : Int} (h : l[j]? = some c) (ha : (l.take j).all (okC m) = true) (hc : okC m c = true) : (l.take (j + 1)).all (okC m) = true := by
  obtain ⟨hj, rfl⟩ := List.getElem?_eq_some_iff.1 h
  rw [List.take_succ_eq_append_getElem hj, List.all_append, ha]
  simp [hc]
theorem all_no {l : List Int} {m : List UInt8} {c : Int} (h : c ∈ l) (hc : okC m c = false) : l.all (okC m) = false := by
  rw [List.all_eq_false]
  exact ⟨c, h, by rw [hc]; exact Bool.false_ne_true⟩
set_option maxRecDepth 100000 in
set_option maxHeartbeats 8000000 in
theorem letters_any (w : World) (t m : List UInt8) (ht : t.length ≤ 17592186044414) (hm : m.length ≤ 17592186044414) : Calls Tryd.prog 17 #[.string ⟨t.toArray⟩, .string ⟨m.toArray⟩] w (LetsP w t m) := by
  have HD := Lib.hid (folded_any w t ht)
  have hz : (⟨m.toArray⟩ : ByteArray).size = m.length := by show m.toArray.size = _; simp
  have HBY := Lib.hid (fun j b h => @mark_at m j b h)
  obtain ⟨M, hM⟩ : ∃ M, m.length = M := ⟨_, rfl⟩
  rw [hM] at hz hm
  have HML := Lib.hid hM
  clear hM ht
  go_enter Tryd.func17, Tryd.ntmps17
  go_wp2_with fail
  refine HD.out.mono ?_
  rintro e w1 ⟨hb1, ⟨v, l, rfl, hd1, ho1⟩ | ⟨rfl, hno⟩⟩
  · have HB1 := Lib.hid hb1
    have HDE := Lib.hid hd1
    obtain ⟨A, cp, rfl, hcp⟩ := own_shape ho1
    obtain ⟨f, hf⟩ : ∃ f, l.map foldI = f := ⟨_, rfl⟩
    have hfl : f.length = l.length := by rw [← hf, List.length_map]
    obtain ⟨n, hn⟩ : ∃ n, l.length = n := ⟨_, rfl⟩
    have HPB : Hid (∀ z : Int, z ≠ 0 → letsE f m = z → ∀ W, Below w1.heap.size w1 W → LetsP w t m (.returned (.tuple #[.slice none 0 0, .int .i64 z])) W) := fun z hz h W hW => ⟨bcall hb1 hW, .inr (.inl ⟨l, z, rfl, hz, hd1, by rw [hf]; exact h⟩)⟩
    have HPO : Hid (letsE f m = 0 → ∀ W, Below w1.heap.size w1 W → LetsP w t m (.returned (.tuple #[.slice A n cp, .int .i64 0])) W) := fun h W hW => ⟨bcall hb1 hW, .inl ⟨.slice A n cp, l, rfl, hd1, by rw [hf]; exact h, by have := own_kept ho1 hW; rwa [hn] at this ⊢⟩⟩
    rw [hf, hn] at ho1
    rw [hn] at hfl hcp ⊢
    have HO1 := Lib.hid (Sl.of_own ho1)
    have HFL := Lib.hid hfl
    clear hb1 hd1 ho1 hn HD hf hfl HDE
    by_cases c1 : 16 < n
    · have HX := Lib.hid (HPB.out 4 (by omega) (by unfold letsE; rw [if_pos (by rw [HFL.out]; exact c1)]) w1 (brefl w1))
      have q1 : decide (16 < n) = true := decide_eq_true c1
      have q2 : decide ((n : Int) > 16) = true := decide_eq_true (by omega)
      go_wp2_with fail
      go_ret2
      exact HX.out
    have q1 : decide (16 < n) = false := decide_eq_false c1
    have q2 : decide ((n : Int) > 16) = false := decide_eq_false (by omega)
    by_cases c2 : n = 0
    · have HX := Lib.hid (HPB.out 20 (by omega) (by unfold letsE; rw [HFL.out, if_neg c1, if_pos c2]) w1 (brefl w1))
      subst c2
      go_wp2_with fail
      go_ret2
      exact HX.out
    have q3 : ((n : Int) == 0) = false := by rw [beq_eq_false_iff_ne]; omega
    have q4 : (n == 0) = false := by rw [beq_eq_false_iff_ne]; exact c2
    have HNB : Hid (f.all (okC m) = false → letsE f m = 20) := fun h => by unfold letsE; rw [HFL.out, if_neg c1, if_neg c2, h]; rfl
    have HNG : Hid (f.all (okC m) = true → letsE f m = 0) := fun h => by unfold letsE; rw [HFL.out, if_neg c1, if_neg c2, h]; rfl
    have hn16 : n ≤ 16 := by omega
    clear c1
    go_wp2_with fail
    go_loopw [28] (fun iv wr => ∃ j : Nat, j ≤ n ∧ iv = .int .i64 (j : Int) ∧ Hid (Below w1.heap.size w1 wr) ∧ Hid ((f.take j).all (okC m) = true)) (fun iv _ => n - (intOf iv).toNat)
    case atStart => exact ⟨0, Nat.zero_le _, rfl, brefl w1, rfl⟩
    case round =>
      obtain ⟨j, hj, rfl, HB, HA⟩ := hrel
      by_cases hjn : j < n
      · obtain ⟨c, hc⟩ : ∃ c, f[j]? = some c := ⟨f[j]'(by rw [HFL.out]; exact hjn), List.getElem?_eq_getElem _⟩
        obtain ⟨b0, off, hA, hb0, hcl⟩ := (HO1.out.below HB.out).at_ hjn
        have r0 := hcl j (.int .i64 c) (by rw [List.getElem?_map, hc]; rfl)
        rw [hA]
        have hbw : b0 < wr.heap.size := Nat.lt_of_lt_of_le hb0 HB.out.size
        have hq : decide (j < n) = true := decide_eq_true hjn
        have HC := Lib.hid hc
        clear hcl hc
        go_wp2_with fail
        refine (letter_any c _).mono ?_
        rintro e w2 ⟨rfl, rfl⟩
        go_wp2_with fail
        go_loopw [10, 36] (fun okv iv w3 => ∃ k : Nat, k ≤ M ∧ iv = .int .i64 (k : Int) ∧ okv = .bool (letB c || (m.take k).any fun b => c == (b.toNat : Int)) ∧ w3 = wr) (fun _ iv _ => M - (intOf iv).toNat)
        case atStart => exact ⟨0, Nat.zero_le _, rfl, by simp, rfl⟩
        case round =>
          obtain ⟨k, hk, rfl, rfl, rfl⟩ := hrel
          obtain ⟨ob, hob⟩ : ∃ ob, (letB c || (m.take k).any fun b => c == (b.toNat : Int)) = ob := ⟨_, rfl⟩
          have HOB := Lib.hid hob
          simp only [hob]
          clear hob
          by_cases hkm : k < M
          · obtain ⟨b, hb⟩ : ∃ b, m[k]? = some b := ⟨m[k]'(by rw [HML.out]; exact hkm), List.getElem?_eq_getElem _⟩
            have hy := HBY.out k b hb
            obtain ⟨z, hzb⟩ : ∃ z : Int, (b.toNat : Int) = z := ⟨_, rfl⟩
            rw [hzb] at hy
            have hz0 : 0 ≤ z := by omega
            have hz1 : z ≤ 255 := by have := b.toNat_lt; omega
            obtain ⟨x, hx⟩ : ∃ x, (c == z) = x := ⟨_, rfl⟩
            have HON : Hid ((letB c || (m.take (k + 1)).any fun b => c == (b.toNat : Int)) = (ob || x)) := by
              show _ = _
              rw [any_take hb, ← Bool.or_assoc, HOB.out, hzb, hx]
            have hq2 : decide (k < M) = true := decide_eq_true hkm
            clear hb hzb HOB
            cases ob
            · go_wp2_with fail
              go_roundw
              case rel => exact ⟨k + 1, by omega, by go_num, by rw [HON.out]; simp, trivial⟩
              case measure => simp [intOf]; omega
            · clear hx
              go_wp2_with fail
              go_roundw
              case rel => exact ⟨k + 1, by omega, by go_num, by rw [HON.out]; simp, trivial⟩
              case measure => simp [intOf]; omega
          · obtain rfl : k = M := by omega
            have HOK : Hid (okC m c = ob) := by
              have := HOB.out
              rw [← HML.out, List.take_length] at this
              exact this
            have hq2 : decide (k < k) = false := decide_eq_false hkm
            clear HOB
            cases ob
            · have HX := Lib.hid (HPB.out 20 (by omega) (HNB.out (all_no (List.mem_of_getElem? HC.out) HOK.out)) wr HB.out)
              go_wp2_with fail
              go_ret2
              exact HX.out
            · have HAN := Lib.hid (all_take HC.out HA.out HOK.out)
              go_wp2_with fail
              go_roundw
              case rel => exact ⟨j + 1, by omega, by go_num, HB, HAN⟩
              case measure => simp [intOf]; omega
      · obtain rfl : j = n := by omega
        have HX := Lib.hid (HPO.out (HNG.out (by have := HA.out; rwa [← HFL.out, List.take_length] at this)) wr HB.out)
        have hq : decide (j < j) = false := decide_eq_false hjn
        go_wp2_with fail
        go_ret2
        exact HX.out
  · have HPOST : Hid (LetsP w t m (.returned (.tuple #[.slice none 0 0, .int .i64 7])) w1) := ⟨hb1, .inr (.inr ⟨rfl, hno⟩)⟩
    clear hb1 hno HD
    go_wp2_with fail
    go_ret2
    exact HPOST.out
end Go.Proofs.YtclahhkcbkpofaaDoor
/- wild.wide at patterns whose only star is the last; Wild and Prefix. -/
namespace Go.Proofs.YtclahhkcbkpofaaDoor
open Go.RowKit
open Sp
set_option linter.unusedVariables false
theorem lets_zero {f : List Int} {m : List UInt8} (h : letsE f m = 0) : f.length ≤ 16 ∧ 0 < f.length ∧ f.all (okC m) = true := by
  unfold letsE at h
  split at h
  · omega
  · split at h
    · omega
    · split at h
      · exact ⟨by omega, by omega, by assumption⟩
      · omega
theorem run_from (b off n cp i : Nat) (h : i < n) (hc : n ≤ cp) (w : World) : (Instr.slice 23 (.slice (some ⟨b, off, none⟩) n cp) (some (.int .i64 (i : Nat))) none none).run Tryd.prog w = .ok (.slice (some ⟨b, off + i, none⟩) (n - i) (cp - i)) w := by
  have i1 : ((i : Nat) : Int) ≤ (n : Int) := by omega
  have i2 : ¬ (cp = i) := by omega
  have i4 : (0 : Int) ≤ (i : Nat) := by omega
  simp [Instr.slice, run_underlying Tryd.underlying23, Instr.sliceBounds, run_sliceBound, i1, i2, i4, Addr.add_lit]
theorem getD_app {a b : List Int} {j : Nat} (h : j < a.length) : (a ++ b).getD j 0 = a[j] := by
  rw [List.getD_eq_getElem?_getD, List.getElem?_append_left h, List.getElem?_eq_getElem h]
  rfl
set_option maxRecDepth 100000 in
set_option maxHeartbeats 8000000 in
theorem wide_any (w : World) (A : Option Addr) (n cp : Nat) (q : List Int) (star : Bool) (hs : Sl w w.heap.size 1 A n ((q ++ if star then [42] else []).map (.int .i64))) (hcp : n ≤ cp) (h42 : ∀ c ∈ q, c ≠ 42) (hq : q.length ≤ 17) (hn : 0 < n) :
    Calls Tryd.prog 53 #[.slice A n cp] w fun e w' => e = .returned (.bool false) ∧ w' = w := by
  have hln : (q ++ if star then [42] else [] : List Int).length = n := by have := hs.1; simpa using this
  have hn18 : n ≤ 18 := by
    have := hln
    cases star <;> simp at this <;> omega
  obtain ⟨b, off, rfl, hb, hc⟩ := hs.at_ hn
  have hcell : ∀ (zs : List Int), zs = (q ++ if star then [42] else [] : List Int) → ∀ j, j < zs.length → w.cell? ⟨b, off + j, none⟩ = some (.int .i64 (zs.getD j 0)) := by
    rintro zs rfl j hj
    refine hc j _ ?_
    rw [List.getElem?_map, List.getElem?_eq_getElem hj]
    show some _ = some _
    rw [List.getD_eq_getElem?_getD, List.getElem?_eq_getElem hj]
    rfl
  cases star
  · have hx : Lib.idxOf (((q ++ if false then [42] else [] : List Int)).take n) 42 = -1 := Lib.idxOf_miss _ n 42 fun j hj => by
      have hj2 : j < q.length := by simp at hln; omega
      rw [getD_app hj2]
      exact h42 _ (List.getElem_mem _)
    have HI := Lib.hid (Tryd.slices_Index_int b off n cp _ 42 w (by omega) (by omega) (hcell _ rfl))
    rw [hx] at HI
    clear hc hcell hx hs hln h42
    go_enter Tryd.func53, Tryd.ntmps53
    go_wp2_with fail
    refine HI.out.mono ?_
    rintro e w1 ⟨rfl, rfl⟩
    go_wp2_with fail
    go_ret
    exact ⟨rfl, rfl⟩
  · obtain ⟨Q, hQ⟩ : ∃ Q, q.length = Q := ⟨_, rfl⟩
    have hnQ : n = Q + 1 := by
      rw [List.length_append, hQ] at hln
      simp at hln
      omega
    have hx : Lib.idxOf (((q ++ if true then [42] else [] : List Int)).take n) 42 = (Q : Int) := Lib.idxOf_hit _ n Q 42 (by omega) (by omega) (by
      rw [List.getD_eq_getElem?_getD, List.getElem?_append_right (by omega), hQ, Nat.sub_self]
      rfl) fun j hj => by
      rw [getD_app (by omega)]
      exact h42 _ (List.getElem_mem _)
    have HI := Lib.hid (Tryd.slices_Index_int b off n cp _ 42 w (by omega) (by omega) (hcell _ rfl))
    rw [hx] at HI
    have HC := Lib.hid (Tryd.slices_Contains_int b (off + Q) 1 (cp - Q) [42] 63 w (by simp) (by omega) (fun j hj => by
      obtain rfl : j = 0 := by simp at hj; omega
      have := hcell _ rfl Q (by omega)
      rw [List.getD_eq_getElem?_getD, List.getElem?_append_right (by omega), hQ, Nat.sub_self] at this
      exact this))
    have hct : (([42] : List Int).take 1).contains 63 = false := rfl
    rw [hct] at HC
    have HRF := Lib.hid (run_from b off n cp Q (by omega) hcp)
    have hrun := fun W => HRF.out W
    rw [show n - Q = 1 by omega] at hrun
    have hQ0 : ¬ ((Q : Int) < 0) := by omega
    clear hc hcell hx hs h42 HRF hct hln hnQ hQ
    go_enter Tryd.func53, Tryd.ntmps53
    go_wp2_with fail
    refine HI.out.mono ?_
    rintro e w1 ⟨rfl, rfl⟩
    go_wp2_with fail
    refine HC.out.mono ?_
    rintro e w1 ⟨rfl, rfl⟩
    go_wp2_with fail
    go_ret
    exact ⟨rfl, rfl⟩
/-- What Prefix answers. -/
def PreP (w : World) (t : List UInt8) : Ending → World → Prop := fun e w' => Below w.heap.size w w' ∧
  ((∃ (A : Option Addr) (c : Nat) (hs : List Sh) (l : List Int), e = .returned (.tuple #[.slice A hs.length c, .int .i64 0]) ∧ Dec (bytesN t) l ∧ letsE (l.map foldI) [] = 0 ∧ StsIn w' w'.heap.size A hs.length c hs ∧ MadeQ (l.map foldI) true (hs.map (·.d))) ∨
   (∃ l z, e = .returned (.tuple #[.slice none 0 0, .int .i64 z]) ∧ z ≠ 0 ∧ Dec (bytesN t) l ∧ letsE (l.map foldI) [] = z) ∨
   (e = .returned (.tuple #[.slice none 0 0, .int .i64 7]) ∧ ∀ l, ¬ Dec (bytesN t) l))
theorem ok_letter {c : Int} (h : okC [] c = true) : letB c = true := by
  unfold okC at h
  simpa using h
theorem let_no42 {c : Int} (h : letB c = true) : c ≠ 42 ∧ c ≠ 63 := by
  constructor
  · rintro rfl
    exact absurd h (by decide)
  · rintro rfl
    exact absurd h (by decide)
theorem all_letter {f : List Int} (h : f.all (okC []) = true) {c : Int} (hc : c ∈ f) : letB c = true := ok_letter (List.all_eq_true.1 h c hc)
set_option maxRecDepth 100000 in
set_option maxHeartbeats 8000000 in
theorem prefix_any (w : World) (t : List UInt8) (ht : t.length ≤ 17592186044414) (hT : Tab w) : Calls Tryd.prog 29 #[.string ⟨t.toArray⟩] w (PreP w t) := by
  have HD := Lib.hid (letters_any w t [] ht (by simp))
  have HT := Lib.hid hT
  clear hT ht
  go_enter Tryd.func29, Tryd.ntmps29
  go_wp2_with fail
  refine HD.out.mono ?_
  rintro e w1 ⟨hb1, ⟨v, l, rfl, hd, hl, ho⟩ | ⟨l, z, rfl, hz, hd, hl⟩ | ⟨rfl, hno⟩⟩
  · obtain ⟨f, hf⟩ : ∃ f, l.map foldI = f := ⟨_, rfl⟩
    have hfl : f.length = l.length := by rw [← hf, List.length_map]
    obtain ⟨z1, z2, z3⟩ := lets_zero hl
    rw [hf] at z1 z2 z3 ho
    rw [← hfl] at ho
    obtain ⟨n, hn⟩ : ∃ n, f.length = n := ⟨_, rfl⟩
    have HP : Hid (∀ (A : Option Addr) (c : Nat) (hs : List Sh) (W : World), Below w.heap.size w W → StsIn W W.heap.size A hs.length c hs → MadeQ f true (hs.map (·.d)) → PreP w t (.returned (.tuple #[.slice A hs.length c, .int .i64 0])) W) := fun A c hs W hW h1 h2 => ⟨hW, .inl ⟨A, c, hs, l, rfl, hd, hl, h1, by rw [hf]; exact h2⟩⟩
    rw [hn] at ho z1 z2
    have HO1 := Lib.hid ho
    have HB1 := Lib.hid hb1
    have hS := hb1.size
    have HLT := Lib.hid (fun c hc => let_no42 (all_letter z3 (c := c) hc))
    have HN := Lib.hid hn
    clear hd hl ho z3 hf hfl hn hb1
    go_wp2_with (at_builtin; refine wpList_pushm w w1 _ rfl _ _ _ rfl el_int _ _ _ rfl HO1.out (m := 1) rfl rfl rfl (by simp [Value.oneCell']) (by unfold maxLen; omega) (by omega) hS HB1.out ?_; intro v2 w2 hown2 hb2 _ _; obtain ⟨A2, c2, rfl, hc2⟩ := own_shape hown2; have HO2 := Lib.hid hown2; have HB2 := Lib.hid hb2; clear hown2 hb2)
    have HSL : Hid (Sl w2 w2.heap.size 1 A2 (n + 1) ((f ++ if true then [42] else []).map (.int .i64))) := by
      have := Sl.of_own HO2.out
      have e : (f ++ if true then [42] else [] : List Int).map (Value.int .i64) = f.map (.int .i64) ++ [.int .i64 42] := by simp
      show Sl _ _ _ _ _ _
      rw [e]
      exact this
    refine (made_any w2 w2.heap.size (Nat.le_refl _) A2 (n + 1) c2 f true HSL.out (fun c hc => (HLT.out c hc).1) (by rw [HN.out]; omega) 0 (fun _ c _ h => (HLT.out c (List.mem_of_getElem? h)).2) (HT.out.below HB2.out)).mono ?_
    rintro e w3 ⟨A3, c3, hs3, rfl, hst, hmq, hb3⟩
    have HPOST := Lib.hid (HP.out A3 c3 hs3 w3 (bcall HB2.out hb3) hst hmq)
    clear HSL HO2 hst hmq hb3
    go_wp2_with fail
    go_ret2
    exact HPOST.out
  · have HPOST : Hid (PreP w t (.returned (.tuple #[.slice none 0 0, .int .i64 z])) w1) := ⟨hb1, .inr (.inl ⟨l, z, rfl, hz, hd, hl⟩)⟩
    have hz2 : (z != 0) = true := by rw [bne_iff_ne]; exact hz
    clear hb1 hd hl
    go_wp2_with fail
    go_ret2
    exact HPOST.out
  · have HPOST : Hid (PreP w t (.returned (.tuple #[.slice none 0 0, .int .i64 7])) w1) := ⟨hb1, .inr (.inr ⟨rfl, hno⟩)⟩
    clear hb1 hno
    go_wp2_with fail
    go_ret2
    exact HPOST.out
/-- What Wild answers of a pattern whose only star is the last. -/
def WldP (w : World) (q : List Int) (star : Bool) : Ending → World → Prop := fun e w' => Below w.heap.size w w' ∧ ∃ (A : Option Addr) (c : Nat) (hs : List Sh), e = .returned (.tuple #[.slice A hs.length c, .int .i64 0]) ∧ StsIn w' w'.heap.size A hs.length c hs ∧ MadeQ q star (hs.map (·.d))
set_option maxRecDepth 100000 in
set_option maxHeartbeats 8000000 in
theorem wild_any (w : World) (t : List UInt8) (ht : t.length ≤ 17592186044414) (hT : Tab w) (l : List Int) (hl : Dec (bytesN t) l) (he : letsE (l.map foldI) [42, 63] = 0) (q : List Int) (star : Bool) (hf : l.map foldI = (q ++ if star then [42] else [])) (h42 : ∀ c ∈ q, c ≠ 42) (K : Nat) (hK : ∀ k c, k ≠ K → q[k]? = some c → c ≠ 63) :
    Calls Tryd.prog 31 #[.string ⟨t.toArray⟩] w (WldP w q star) := by
  have HD := Lib.hid (letters_any w t [42, 63] ht (by simp))
  have HT := Lib.hid hT
  have HDE := Lib.hid hl
  have HE := Lib.hid he
  have HF := Lib.hid hf
  have H42 := Lib.hid h42
  have HK := Lib.hid hK
  clear hT ht hl he hf h42 hK
  go_enter Tryd.func31, Tryd.ntmps31
  go_wp2_with fail
  refine HD.out.mono ?_
  rintro e w1 ⟨hb1, ⟨v, l2, rfl, hd, hl, ho⟩ | ⟨l2, z, rfl, hz, hd, hl⟩ | ⟨rfl, hno⟩⟩
  · obtain rfl := hd.inj HDE.out
    obtain ⟨z1, z2, z3⟩ := lets_zero hl
    have hfl : (l2.map foldI).length = l2.length := List.length_map ..
    obtain ⟨n, hn⟩ : ∃ n, l2.length = n := ⟨_, rfl⟩
    have hq17 : q.length ≤ 17 := by
      have := congrArg List.length HF.out
      rw [List.length_append] at this
      omega
    rw [HF.out, hn] at ho
    rw [hfl, hn] at z1 z2
    obtain ⟨A, cp, rfl, hcp⟩ := own_shape ho
    have HSL := Lib.hid (Sl.of_own ho)
    have HB1 := Lib.hid hb1
    have HQ17 := Lib.hid hq17
    clear hd hl ho z3 hfl hn hb1 hq17
    go_wp2_with fail
    refine (wide_any w1 A n cp q star HSL.out hcp H42.out HQ17.out z2).mono ?_
    rintro e w2 ⟨rfl, rfl⟩
    go_wp2_with fail
    refine (made_any w2 w2.heap.size (Nat.le_refl _) A n cp q star HSL.out H42.out HQ17.out K HK.out (HT.out.below HB1.out)).mono ?_
    rintro e w3 ⟨A3, c3, hs3, rfl, hst, hmq, hb3⟩
    have HPOST : Hid (WldP w q star (.returned (.tuple #[.slice A3 hs3.length c3, .int .i64 0])) w3) := ⟨bcall HB1.out hb3, A3, c3, hs3, rfl, hst, hmq⟩
    clear HSL hst hmq hb3
    go_wp2_with fail
    go_ret2
    exact HPOST.out
  · obtain rfl := hd.inj HDE.out
    exact absurd (hl.symm.trans HE.out) hz
  · exact absurd HDE.out (hno l)
end Go.Proofs.YtclahhkcbkpofaaDoor
/- What patterns' automata take of characters' bytes (plain Lean). -/
namespace Go.Proofs.YtclahhkcbkpofaaDoor
open Sp
theorem fit_prefix : ∀ {q l : List Int}, (∀ c ∈ q, c ≠ 63) → (fitQ (q.map rangeOf) l ↔ q <+: l)
  | [], l, _ => ⟨fun _ => List.nil_prefix, fun _ => trivial⟩
  | c :: q, [], _ => ⟨False.elim, fun h => by have := h.length_le; simp at this⟩
  | c :: q, d :: l, h => by
    have e : rangeOf c = (c, c) := if_neg (h c (List.mem_cons_self ..))
    have ih := fit_prefix (q := q) (l := l) fun x hx => h x (List.mem_cons_of_mem _ hx)
    rw [List.cons_prefix_cons, ← ih, List.map_cons, e]
    show (c ≤ d ∧ d ≤ c ∧ _) ↔ _
    constructor
    · rintro ⟨h1, h2, h3⟩
      exact ⟨by omega, h3⟩
    · rintro ⟨rfl, h3⟩
      exact ⟨Int.le_refl _, Int.le_refl _, h3⟩
theorem made_star {q l : List Int} {D : List St} {t : List UInt8} (h : MadeQ q true D) (hd : Dec (bytesN t) l) : takesB D t = true ↔ fitQ (q.map rangeOf) l := by
  rw [h.2.2 t, wild_takes (rowsC_ok q), ← sg_begins (q.map rangeOf) hd.1, ← hd.2]
  constructor
  · rintro ⟨u, v, h1, h2, _⟩
    exact ⟨u, v, h1, h2⟩
  · rintro ⟨u, v, h1, h2⟩
    exact ⟨u, v, h1, h2, .inl rfl⟩
theorem made_begins {q l : List Int} {D : List St} {t : List UInt8} (h : MadeQ q true D) (hq : ∀ c ∈ q, c ≠ 63) (hd : Dec (bytesN t) l) : takesB D t = decide (q <+: l) := by
  rw [Bool.eq_iff_iff, decide_eq_true_eq, made_star h hd, fit_prefix hq]
theorem made_same {q l : List Int} {D : List St} {t : List UInt8} (h : MadeQ q false D) (hq : ∀ c ∈ q, c ≠ 63) (hd : Dec (bytesN t) l) : takesB D t = decide (l = q) := by
  rw [Bool.eq_iff_iff, decide_eq_true_eq, h.2.2 t, wild_takes (rowsC_ok q)]
  have e : (∃ u v, bytesN t = u ++ v ∧ Sg (rowsC q) u ∧ (false = true ∨ v = [])) ↔ Sg (rowsOf (q.map rangeOf)) (encs l) := by
    rw [← hd.2]
    constructor
    · rintro ⟨u, v, h1, h2, h3 | rfl⟩
      · cases h3
      · rw [h1, List.append_nil]; exact h2
    · intro h2
      exact ⟨_, [], (List.append_nil _).symm, h2, .inr rfl⟩
  rw [e, sg_all (q.map rangeOf) hd.1, fit_prefix hq, List.length_map]
  constructor
  · rintro ⟨h1, h2⟩
    exact (h2.eq_of_length h1.symm).symm
  · rintro rfl
    exact ⟨rfl, List.prefix_refl _⟩
/-- The pattern f?x* and three texts. -/
theorem dec_fox : Dec (bytesN [102, 111, 120, 101, 115]) [102, 111, 120, 101, 115] := ⟨by decide, by decide⟩
theorem dec_fex : Dec (bytesN [102, 195, 169, 120]) [102, 233, 120] := ⟨by decide, by decide⟩
theorem dec_fx : Dec (bytesN [102, 120]) [102, 120] := ⟨by decide, by decide⟩
theorem dec_pat : Dec (bytesN [102, 63, 120, 42]) [102, 63, 120, 42] := ⟨by decide, by decide⟩
theorem fold_pat : ([102, 63, 120, 42] : List Int).map foldI = [102, 63, 120] ++ if true then [42] else [] := by decide
theorem dec_star : Dec (bytesN [42]) [42] := ⟨by decide, by decide⟩
end Go.Proofs.YtclahhkcbkpofaaDoor
/- Chapter 10's awake. -/
namespace Go.Proofs.YtclahhkcbkpofaaDoor
open Go.RowKit
open Sp
set_option linter.unusedVariables false
theorem pat_lets : letsE (([102, 63, 120, 42] : List Int).map foldI) [42, 63] = 0 := by decide
theorem pat_takes {D : List St} (h : MadeQ [102, 63, 120] true D) : takesB D [102, 111, 120, 101, 115] = true ∧ takesB D [102, 195, 169, 120] = true ∧ takesB D [102, 120] = false := by
  refine ⟨(made_star h dec_fox).2 ?_, (made_star h dec_fex).2 ?_, ?_⟩
  · simp [fitQ, rangeOf]
  · simp [fitQ, rangeOf]
  · cases hb : takesB D [102, 120]
    · rfl
    · have := (made_star h dec_fx).1 hb
      simp [fitQ, rangeOf] at this
set_option maxRecDepth 100000 in
set_option maxHeartbeats 8000000 in
theorem wawake_any (w : World) (hT : Tab w) : Calls Tryd.prog 19 #[] w fun e w' => e = .returned (.bool true) ∧ Below w.heap.size w w' := by
  have HW := Lib.hid (wild_any w [102, 63, 120, 42] (by simp) hT [102, 63, 120, 42] dec_pat pat_lets [102, 63, 120] true fold_pat (by decide) 1 (fun k c hk h => by
    have hl := (List.getElem?_eq_some_iff.1 h).1
    simp at hl
    obtain rfl | rfl : k = 0 ∨ k = 2 := by omega
    · injection h with h; subst h; decide
    · injection h with h; subst h; decide))
  clear hT
  go_enter Tryd.func19, Tryd.ntmps19
  go_wp2_with fail
  refine HW.out.mono ?_
  rintro e w1 ⟨hb1, A, c, hs, rfl, hst, hmq⟩
  obtain ⟨t1, t2, t3⟩ := pat_takes hmq
  have HB1 := Lib.hid hb1
  have HS1 := Lib.hid hst
  have HT1 := Lib.hid t1
  have HT2 := Lib.hid t2
  have HT3 := Lib.hid t3
  clear hb1 hst hmq t1 t2 t3 HW
  obtain ⟨nx, hnx⟩ : ∃ k, hs.length = k := ⟨_, rfl⟩
  rw [hnx] at HS1 ⊢
  clear hnx
  go_wp2_with fail
  refine (accepts_any w1 w1.heap.size (Nat.le_refl _) A nx c hs HS1.out [102, 111, 120, 101, 115] (by simp)).mono ?_
  rintro e w2 ⟨rfl, hb2⟩
  rw [HT1.out]
  have HS2 := Lib.hid (HS1.out.keep hb2 (Nat.le_refl _))
  have HB2 := Lib.hid (bcall HB1.out hb2)
  have hs2 := hb2.size
  clear hb2
  go_wp2_with fail
  refine (accepts_any w2 w1.heap.size hs2 A nx c hs HS2.out [102, 195, 169, 120] (by simp)).mono ?_
  rintro e w3 ⟨rfl, hb3⟩
  rw [HT2.out]
  have HS3 := Lib.hid (HS2.out.keep (hb3.mono hs2) (Nat.le_refl _))
  have HB3 := Lib.hid (bcall HB2.out hb3)
  have hs3 := hb3.size
  clear hb3
  go_wp2_with fail
  refine (accepts_any w3 w1.heap.size (by omega) A nx c hs HS3.out [102, 120] (by simp)).mono ?_
  rintro e w4 ⟨rfl, hb4⟩
  rw [HT3.out]
  have HB4 := Lib.hid (bcall HB3.out hb4)
  clear hb4
  go_wp2_with fail
  go_ret
  exact ⟨rfl, HB4.out⟩
end Go.Proofs.YtclahhkcbkpofaaDoor
