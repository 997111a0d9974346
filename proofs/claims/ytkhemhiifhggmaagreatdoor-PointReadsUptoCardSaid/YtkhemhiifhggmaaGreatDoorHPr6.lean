/- seal.Open. -/
import Derived.Test.YtkhemhiifhggmaaGreatDoorHPr5
import Derived.Lib.AppendIntMem
import Derived.Lib.ItoaLen
import Derived.Test.YtkhemhiifhggmaaGreatDoorHPr1
set_option maxRecDepth 100000
set_option maxHeartbeats 40000000
namespace Go.Proofs.YtkhemhiifhggmaaGreatDoor
open Go.RowKit Go.Maps
def headE : List UInt8 → List UInt8 → Int
 | [], _ => 0
 | _ :: _, [] => 2
 | x :: xs, y :: ys => if y = x then headE xs ys else 3
def wantB (k : Nat) : List UInt8 := [103, 108, 115, UInt8.ofNat k]
def openB (k : Nat) (b : List UInt8) : List UInt8 × Int :=
 if headE (wantB k) b = 0 then
  if (readBlk (b.drop 4)).2.1 = 0 then
   if (readBlk (b.drop 4)).2.2.length < 4 then ([], 2) else if 4 < (readBlk (b.drop 4)).2.2.length then ([], 5) else if sealB k (readBlk (b.drop 4)).1 = b then ((readBlk (b.drop 4)).1, 0) else ([], 6)
  else ([], (readBlk (b.drop 4)).2.1)
 else ([], headE (wantB k) b)
theorem headE_short : ∀ (xs b : List UInt8) (i : Nat), i < xs.length → b.take i = xs.take i → b.length ≤ i → headE xs b = 2
 | [], _, _, h, _, _ => by simp at h
 | x :: xs, [], _, _, _, _ => rfl
 | x :: xs, y :: ys, 0, _, _, h => by simp at h
 |
  x :: xs, y :: ys, i + 1, h, e, hl => by
  rw [List.take_succ_cons, List.take_succ_cons] at e
  injection e with e1 e2
  rw [headE, if_pos e1]
  exact headE_short xs ys i (by simpa using h) e2 (by simpa using hl)
theorem headE_bad : ∀ (xs b : List UInt8) (i : Nat) (x y : UInt8), xs[i]? = some x → b[i]? = some y → b.take i = xs.take i → y ≠ x → headE xs b = 3
 | [], _, _, _, _, h, _, _, _ => by simp at h
 | x :: xs, [], _, _, _, _, h, _, _ => by simp at h
 |
  x :: xs, y :: ys, 0, x', y', hx, hy, _, hne => by
  rw [List.getElem?_cons_zero] at hx hy
  injection hx with hx
  injection hy with hy
  rw [headE, if_neg (by rw [hx, hy]; exact hne)]
 |
  x :: xs, y :: ys, i + 1, x', y', hx, hy, e, hne => by
  rw [List.take_succ_cons, List.take_succ_cons] at e
  injection e with e1 e2
  rw [List.getElem?_cons_succ] at hx hy
  rw [headE, if_pos e1]
  exact headE_bad xs ys i x' y' hx hy e2 hne
theorem headE_ok : ∀ (xs b : List UInt8), b.take xs.length = xs → headE xs b = 0
 | [], _, _ => rfl
 | x :: xs, [], h => by simp at h
 |
  x :: xs, y :: ys, h => by
  rw [List.length_cons, List.take_succ_cons] at h
  injection h with e1 e2
  rw [headE, if_pos e1]
  exact headE_ok xs ys e2
set_option linter.unusedVariables false in
theorem open_o (W0 : World) (b : List UInt8) (hb : b.length ≤ 1125899906842624) (k : Nat) (hk : k ≤ 255)
  (c2 c3 c7 c8 c9 c10 c11 c12 c13 c14 c15 c16 c17 c18 c49 c50 c51 c52 c53 c54 c55 c56 c57 c58 c59 c60 c61 c62 c63 c64 c65 c66 c67 c68 c69 c70 c71 c72 c73 c74 c75 c76 c77 c78 u4 u5 u6 u20 u21 u22 u23 u24 u25 u26 u27 u28 u29 u30 u31 u32 u33 u34 u35 u36 u37 u38 u39 u40 u41 u42 u43 u44 u45 u46 u47 u48 : Value) (Q0 : Exit → Act → World → Prop) (hQ0 : ∀ c (a a' : Act) w, a.defers = a'.defers → Q0 (.panic c) a w → Q0 (.panic c) a' w)
  (hret : ∀ (z : Int) (W : World) (x19 u6 u20 u21 u22 u23 u24 u25 u26 u27 u28 u29 u30 u31 u32 u33 u34 u35 u36 u37 u38 u39 u40 u41 u42 u43 u44 u45 u46 u47 u48 : Value), Hid (Below W0.heap.size W0 W) → Hid (z ≠ 0 ∧ headE (wantB k) b = z) → Q0 .ret ⟨List.toArray (.int .i64 (k : Int) :: .string ⟨b.toArray⟩ :: c2 :: c3 :: .string ⟨#[]⟩ :: .int .i64 z :: u6 :: c7 :: c8 :: c9 :: c10 :: c11 :: c12 :: c13 :: c14 :: c15 :: c16 :: c17 :: c18 :: x19 :: u20 :: u21 :: u22 :: u23 :: u24 :: u25 :: u26 :: u27 :: u28 :: u29 :: u30 :: u31 :: u32 :: u33 :: u34 :: u35 :: u36 :: u37 :: u38 :: u39 :: u40 :: u41 :: u42 :: u43 :: u44 :: u45 :: u46 :: u47 :: u48 :: c49 :: c50 :: c51 :: c52 :: c53 :: c54 :: c55 :: c56 :: c57 :: c58 :: c59 :: c60 :: c61 :: c62 :: c63 :: c64 :: c65 :: c66 :: c67 :: c68 :: c69 :: c70 :: c71 :: c72 :: c73 :: c74 :: c75 :: c76 :: c77 :: c78 :: []), []⟩ W)
  (hexit : ∀ (W : World) (x19 u4 u5 u6 u20 u21 u22 u23 u24 u25 u26 u27 u28 u29 u30 u31 u32 u33 u34 u35 u36 u37 u38 u39 u40 u41 u42 u43 u44 u45 u46 u47 u48 : Value), Hid (Below W0.heap.size W0 W) → Hid (4 ≤ b.length ∧ headE (wantB k) b = 0) → Q0 (.exit 0) ⟨List.toArray (.int .i64 (k : Int) :: .string ⟨b.toArray⟩ :: c2 :: c3 :: u4 :: u5 :: u6 :: c7 :: c8 :: c9 :: c10 :: c11 :: c12 :: c13 :: c14 :: c15 :: c16 :: c17 :: c18 :: x19 :: u20 :: u21 :: u22 :: u23 :: u24 :: u25 :: u26 :: u27 :: u28 :: u29 :: u30 :: u31 :: u32 :: u33 :: u34 :: u35 :: u36 :: u37 :: u38 :: u39 :: u40 :: u41 :: u42 :: u43 :: u44 :: u45 :: u46 :: u47 :: u48 :: c49 :: c50 :: c51 :: c52 :: c53 :: c54 :: c55 :: c56 :: c57 :: c58 :: c59 :: c60 :: c61 :: c62 :: c63 :: c64 :: c65 :: c66 :: c67 :: c68 :: c69 :: c70 :: c71 :: c72 :: c73 :: c74 :: c75 :: c76 :: c77 :: c78 :: []), []⟩ W) :
  Code.wp Tryz.prog (.loop (loopOf Tryz.f40 0)) Q0 ⟨List.toArray (.int .i64 (k : Int) :: .string ⟨b.toArray⟩ :: c2 :: c3 :: u4 :: u5 :: u6 :: c7 :: c8 :: c9 :: c10 :: c11 :: c12 :: c13 :: c14 :: c15 :: c16 :: c17 :: c18 :: .int .i64 (0 : Int) :: u20 :: u21 :: u22 :: u23 :: u24 :: u25 :: u26 :: u27 :: u28 :: u29 :: u30 :: u31 :: u32 :: u33 :: u34 :: u35 :: u36 :: u37 :: u38 :: u39 :: u40 :: u41 :: u42 :: u43 :: u44 :: u45 :: u46 :: u47 :: u48 :: c49 :: c50 :: c51 :: c52 :: c53 :: c54 :: c55 :: c56 :: c57 :: c58 :: c59 :: c60 :: c61 :: c62 :: c63 :: c64 :: c65 :: c66 :: c67 :: c68 :: c69 :: c70 :: c71 :: c72 :: c73 :: c74 :: c75 :: c76 :: c77 :: c78 :: []), []⟩ W0 := by
 have hz := size_arr b
 have hw8 : (UInt8.ofNat k).toNat = k := by simp; omega
 conv => arg 2; arg 1; whnf
 go_loopw [19] (fun iv wr => ∃ i : Nat, i ≤ 4 ∧ iv = .int .i64 (i : Int) ∧ Hid (Below W0.heap.size W0 wr) ∧ Hid (i ≤ b.length ∧ b.take i = (wantB k).take i)) (fun iv _ => 4 - (intOf iv).toNat)
 case atStart => exact ⟨0, Nat.zero_le _, rfl, Lib.hid (brefl W0), Lib.hid ⟨Nat.zero_le _, rfl⟩⟩
 case round =>
  obtain ⟨i, hi, rfl, HB, HI⟩ := hrel
  by_cases hi4 : i < 4
  ·by_cases hlt : i < b.length
   ·obtain ⟨y, hy⟩ : ∃ y, b[i]? = some y := ⟨b[i]'hlt, List.getElem?_eq_getElem _⟩
    have hbz : ∀ h, ((⟨b.toArray⟩ : ByteArray)[i]'h) = y := fun h => by
     have h1 := (List.getElem?_eq_some_iff.1 hy).2
     show (b.toArray[i]) = _
     rw [List.getElem_toArray, h1]
    have HY := Lib.hid hy
    have q0 : decide ((i : Int) < 4) = true := decide_eq_true (by omega)
    have q1 : decide ((i : Int) ≥ (b.length : Int)) = false := decide_eq_false (by omega)
    clear hy
    obtain ⟨Y, hY⟩ : ∃ Y : Int, (y.toNat : Int) = Y := ⟨_, rfl⟩
    have hwy : wrap64 Y = Y := by
     have := y.toNat_lt
     unfold wrap64
     omega
    by_cases hi3 : i < 3
    ·have p3 : decide ((i : Int) < 3) = true := decide_eq_true (by omega)
     have p4 : ((i : Int) == 3) = false := by simp; omega
     obtain ⟨m, hm⟩ : ∃ m, ([103, 108, 115] : List UInt8)[i]? = some m := ⟨([103, 108, 115] : List UInt8)[i]'hi3, List.getElem?_eq_getElem _⟩
     have hmw : (wantB k)[i]? = some m := by
      show ([103, 108, 115] ++ [UInt8.ofNat k] : List UInt8)[i]? = _
      rw [List.getElem?_append_left hi3]
      exact hm
     have hmz : ∀ h, ((⟨#[103, 108, 115]⟩ : ByteArray)[i]'h) = m := fun h => by
      have h1 := (List.getElem?_eq_some_iff.1 hm).2
      exact h1
     have hms : (⟨#[103, 108, 115]⟩ : ByteArray).size = 3 := rfl
     have HMW := Lib.hid hmw
     obtain ⟨M, hM⟩ : ∃ M : Int, (m.toNat : Int) = M := ⟨_, rfl⟩
     clear hm hmw
     by_cases hyx : Y = M
     ·have p5 : (Y != M) = false := by simpa using hyx
      go_wp2_with fail
      go_quiet (fail)
      go_wp2_with fail
      go_roundw
      case rel => exact ⟨i + 1, by omega, by go_num, Lib.hid (below_drewN HB.out _), Lib.hid ⟨by omega, by
       rw [List.take_add_one, List.take_add_one, HI.out.2, HY.out, HMW.out]
       have e : y = m := UInt8.toNat_inj.1 (by omega)
       rw [e]⟩⟩
      case measure => simp [intOf]; omega
     ·have p5 : (Y != M) = true := by simpa using hyx
      have HE : Hid ((3 : Int) ≠ 0 ∧ headE (wantB k) b = 3) := ⟨by decide, headE_bad _ _ i m y HMW.out HY.out HI.out.2 (fun e => hyx (by rw [← hY, ← hM, e]))⟩
      go_wp2_with fail
      go_quiet (fail)
      go_wp2_with fail
      exact hret 3 _ _ _ _ _ _ _ _ _ _ _ _ _ _ _ _ _ _ _ _ _ _ _ _ _ _ _ _ _ _ _ _ (Lib.hid (below_drewN HB.out _)) HE
    ·have hmw : (wantB k)[i]? = some (UInt8.ofNat k) := by rw [show i = 3 by omega]; rfl
     have p3 : decide ((i : Int) < 3) = false := decide_eq_false (by omega)
     have p4 : ((i : Int) == 3) = true := by simp; omega
     have HMW := Lib.hid hmw
     clear hmw
     by_cases hyx : Y = (k : Int)
     ·have p5 : (Y != (k : Int)) = false := by simpa using hyx
      go_wp2_with fail
      go_quiet (fail)
      go_wp2_with fail
      go_roundw
      case rel => exact ⟨i + 1, by omega, by go_num, Lib.hid (below_drewN HB.out _), Lib.hid ⟨by omega, by
       rw [List.take_add_one, List.take_add_one, HI.out.2, HY.out, HMW.out]
       have e : y = UInt8.ofNat k := UInt8.toNat_inj.1 (by omega)
       rw [e]⟩⟩
      case measure => simp [intOf]; omega
     ·have p5 : (Y != (k : Int)) = true := by simpa using hyx
      have HE : Hid ((3 : Int) ≠ 0 ∧ headE (wantB k) b = 3) := ⟨by decide, headE_bad _ _ i _ y HMW.out HY.out HI.out.2 (fun e => hyx (by rw [← hY, e, hw8]))⟩
      go_wp2_with fail
      go_quiet (fail)
      go_wp2_with fail
      exact hret 3 _ _ _ _ _ _ _ _ _ _ _ _ _ _ _ _ _ _ _ _ _ _ _ _ _ _ _ _ _ _ _ _ (Lib.hid (below_drewN HB.out _)) HE
   ·have q0 : decide ((i : Int) < 4) = true := decide_eq_true (by omega)
    have q1 : decide ((i : Int) ≥ (b.length : Int)) = true := decide_eq_true (by omega)
    have q2 : decide (b.length ≤ i) = true := decide_eq_true (by omega)
    have HE : Hid ((2 : Int) ≠ 0 ∧ headE (wantB k) b = 2) := ⟨by decide, headE_short _ _ i hi4 HI.out.2 (by omega)⟩
    go_wp2_with fail
    exact hret 2 _ _ _ _ _ _ _ _ _ _ _ _ _ _ _ _ _ _ _ _ _ _ _ _ _ _ _ _ _ _ _ _ HB HE
  ·obtain rfl : i = 4 := by omega
   go_wp2_with fail
   refine hexit wr _ _ _ _ _ _ _ _ _ _ _ _ _ _ _ _ _ _ _ _ _ _ _ _ _ _ _ _ _ _ _ _ _ HB (Lib.hid ⟨HI.out.1, headE_ok _ _ ?_⟩)
   exact HI.out.2
theorem readCnt_short (t : List UInt8) : (readCnt t).2.2.length ≤ t.length := by
 unfold readCnt
 split
 ·exact Nat.le_refl _
 ·unfold readNum
  split
  ·rw [List.length_drop]; omega
  ·exact Nat.le_refl _
theorem readBlk_short (t : List UInt8) : (readBlk t).1.length ≤ t.length ∨ (readBlk t).2.1 ≠ 0 := by
 have h := readCnt_short t
 unfold readBlk
 split
 ·split
  ·left
   rw [List.length_take]
   omega
  ·exact .inr (by show (2 : Int) ≠ 0; decide)
 ·right
  assumption
set_option linter.unusedVariables false in
theorem open_any (w : World) (b : List UInt8) (hb : b.length ≤ 1125899906842624) (k : Nat) (hk : k ≤ 255) :
  Calls Tryz.prog 40 #[.int .i64 k, .string ⟨b.toArray⟩] w fun e w' => e = .returned (.tuple #[.string ⟨(openB k b).1.toArray⟩, .int .i64 (openB k b).2]) ∧ Below w.heap.size w w' := by
 have hk0 : decide ((k : Int) < 0) = false := decide_eq_false (by omega)
 have hk1 : decide ((k : Int) > 255) = false := decide_eq_false (by omega)
 go_enter Tryz.func40, Tryz.ntmps40
 go_wp2_with fail
 refine open_o _ b hb k hk _ _ _ _ _ _ _ _ _ _ _ _ _ _ _ _ _ _ _ _ _ _ _ _ _ _ _ _ _ _ _ _ _ _ _ _ _ _ _ _ _ _ _ _ _ _ _ _ _ _ _ _ _ _ _ _ _ _ _ _ _ _ _ _ _ _ _ _ _ _ _ _ _ _ _ _ _ (fun c a a' w hd h => by cases a; cases a'; cases hd; exact h) ?_ ?_
 ·intro z W x19 u6 u20 u21 u22 u23 u24 u25 u26 u27 u28 u29 u30 u31 u32 u33 u34 u35 u36 u37 u38 u39 u40 u41 u42 u43 u44 u45 u46 u47 u48 HB HE
  have HO : Hid (openB k b = ([], z)) := by
   show _ = _
   unfold openB
   rw [if_neg (by rw [HE.out.2]; exact HE.out.1), HE.out.2]
  go_wp2_with fail
  go_ret2
  exact ⟨by rw [HO.out]; rfl, HB.out⟩
 ·intro W x19 u4 u5 u6 u20 u21 u22 u23 u24 u25 u26 u27 u28 u29 u30 u31 u32 u33 u34 u35 u36 u37 u38 u39 u40 u41 u42 u43 u44 u45 u46 u47 u48 HB HE
  obtain ⟨hb4, he⟩ := HE.out
  have hz := size_arr b
  have e4 : (⟨b.toArray⟩ : ByteArray).extract 4 b.length = ⟨(b.drop 4).toArray⟩ := by
   apply ByteArray.ext
   apply Array.ext'
   simp [ByteArray.data_extract, List.take_of_length_le]
  have hdl : (b.drop 4).length = b.length - 4 := List.length_drop ..
  have HS := Lib.hid (readBlk_short (b.drop 4))
  have HO : Hid (openB k b = if (readBlk (b.drop 4)).2.1 = 0 then
   if (readBlk (b.drop 4)).2.2.length < 4 then ([], 2) else if 4 < (readBlk (b.drop 4)).2.2.length then ([], 5) else if sealB k (readBlk (b.drop 4)).1 = b then ((readBlk (b.drop 4)).1, 0) else ([], 6)
  else ([], (readBlk (b.drop 4)).2.1)) := by
   show _ = _
   unfold openB
   rw [if_pos he]
  have HBL := Lib.hid (fun W p h => blk_any W p (b.drop 4) h (by omega))
  clear he HE
  generalize b.drop 4 = u at *
  go_wp2_with fail
  refine (at_any _ u).mono ?_
  rintro e w1 ⟨rfl, h1, hb1⟩
  have HB1 := Lib.hid (bcall HB.out hb1)
  go_wp2_with fail
  refine (HBL.out _ _ h1).mono ?_
  rintro e w2 ⟨rfl, h2, hg2⟩
  have HB2 : Hid (Below w.heap.size w w2) := ⟨hg2.os.trans HB1.out.os, hg2.tape.trans HB1.out.tape, hg2.output.trans HB1.out.output, Nat.le_trans HB1.out.size hg2.size, fun j hj => (hg2.block j (Nat.lt_of_lt_of_le hj HB1.out.size) (by intro e; injection e with e; have := HB.out.size; omega)).trans (HB1.out.block j hj)⟩
  have H2 := Lib.hid h2
  generalize hs : (readBlk u).1 = s at *
  generalize hx : (readBlk u).2.1 = x at *
  generalize hr : (readBlk u).2.2 = r at *
  clear h1 h2 hg2 hb1 HBL hs hx hr
  by_cases hx0 : x = 0
  ·have q0 : (x != 0) = false := by simpa using hx0
   have hsl : s.length ≤ u.length := HS.out.resolve_right (fun h => h hx0)
   have HX := Lib.hid hx0
   clear hx0
   go_wp2_with fail
   refine (rest_any _ _ r H2.out).mono ?_
   rintro e _ ⟨rfl, rfl⟩
   have hz := size_arr r
   by_cases h4 : r.length < 4
   ·have q1 : decide ((r.length : Int) < 4) = true := decide_eq_true (by omega)
    go_wp2_with fail
    go_ret2
    exact ⟨by rw [HO.out, if_pos HX.out, if_pos h4]; rfl, HB2.out⟩
   ·have q1 : decide ((r.length : Int) < 4) = false := decide_eq_false (by omega)
    by_cases h5 : 4 < r.length
    ·have q2 : decide ((r.length : Int) > 4) = true := decide_eq_true (by omega)
     go_wp2_with fail
     go_ret2
     exact ⟨by rw [HO.out, if_pos HX.out, if_neg h4, if_pos h5]; rfl, HB2.out⟩
    ·have q2 : decide ((r.length : Int) > 4) = false := decide_eq_false (by omega)
     go_wp2_with fail
     refine (seal_any _ k hk s (by omega)).mono ?_
     rintro e w3 ⟨rfl, hb3⟩
     have HB3 := Lib.hid (bcall HB2.out hb3)
     clear hb3
     by_cases hsb : sealB k s = b
     ·have hne : ((⟨(sealB k s).toArray⟩ : ByteArray).toList == (⟨b.toArray⟩ : ByteArray).toList) = true := by rw [hsb]; simp
      have HSB := Lib.hid hsb
      clear hsb
      generalize (⟨(sealB k s).toArray⟩ : ByteArray) = S1 at *
      generalize (⟨b.toArray⟩ : ByteArray) = S2 at *
      go_wp2_with fail
      go_ret2
      exact ⟨by rw [HO.out, if_pos HX.out, if_neg h4, if_neg h5, if_pos HSB.out]; rfl, HB3.out⟩
     ·have hne : ((⟨(sealB k s).toArray⟩ : ByteArray).toList == (⟨b.toArray⟩ : ByteArray).toList) = false := by
       rw [beq_eq_false_iff_ne]
       intro h
       rw [ByteArray.toList_eq, ByteArray.toList_eq] at h
       exact hsb (by simpa using h)
      generalize (⟨(sealB k s).toArray⟩ : ByteArray) = S1 at *
      generalize (⟨b.toArray⟩ : ByteArray) = S2 at *
      go_wp2_with fail
      go_ret2
      exact ⟨by rw [HO.out, if_pos HX.out, if_neg h4, if_neg h5, if_neg hsb]; rfl, HB3.out⟩
  ·have q0 : (x != 0) = true := by simpa using hx0
   go_wp2_with fail
   go_ret2
   exact ⟨by rw [HO.out, if_neg hx0]; rfl, HB2.out⟩
end Go.Proofs.YtkhemhiifhggmaaGreatDoor
namespace Go.Proofs.YtkhemhiifhggmaaGreatDoor
open Go.RowKit Go.Maps
set_option linter.unusedVariables false
structure Sg where
 id : Int
 docs : Int
 gen : Int
 gone : Int
deriving DecidableEq
def Sg.cells (s : Sg) : List Value := [.int .i64 s.id, .int .i64 s.docs, .int .i64 s.gen, .int .i64 s.gone]
def Sg.ok (next last : Int) (s : Sg) : Prop := last < s.id ∧ s.id < next ∧ 1 ≤ s.docs ∧ s.docs ≤ 1048576 ∧ 0 ≤ s.gen ∧ s.gen < next ∧ 0 ≤ s.gone ∧ s.gone ≤ s.docs ∧ (s.gen = 0 ↔ s.gone = 0)
instance (next last : Int) (s : Sg) : Decidable (s.ok next last) := by unfold Sg.ok; infer_instance
def segsOk (next : Int) : Int → List Sg → Prop
 | _, [] => True
 | last, s :: r => s.ok next last ∧ segsOk next s.id r
def segsDec (next : Int) : ∀ (x : Int) (l : List Sg), Decidable (segsOk next x l)
 | _, [] => isTrue trivial
 | last, s :: r => @instDecidableAnd _ _ _ (segsDec next s.id r)
instance (next last : Int) (l : List Sg) : Decidable (segsOk next last l) := segsDec next last l
def PtOk (next : Int) (l : List Sg) : Prop := 1 ≤ next ∧ next ≤ 999999999 ∧ segsOk next 0 l
instance (next : Int) (l : List Sg) : Decidable (PtOk next l) := by unfold PtOk; infer_instance
def checkP (next : Int) (l : List Sg) : Int := if PtOk next l then 0 else 1
def SegsIn (w : World) (B : Nat) (A : Option Addr) (n : Nat) (l : List Sg) : Prop := Sl w B 4 A n (l.flatMap Sg.cells) ∧ l.length = n
theorem SegsIn.at_ {w : World} {B : Nat} {A : Option Addr} {n : Nat} {l : List Sg} (h : SegsIn w B A n l) {k : Nat} {s : Sg} (hk : l[k]? = some s) : ∃ b off, A = some ⟨b, off, none⟩ ∧ b < B ∧ w.cell? ⟨b, off + k * 4, none⟩ = some (.int .i64 s.id) ∧ w.cell? ⟨b, off + k * 4 + 1, none⟩ = some (.int .i64 s.docs) ∧ w.cell? ⟨b, off + k * 4 + 2, none⟩ = some (.int .i64 s.gen) ∧ w.cell? ⟨b, off + k * 4 + 3, none⟩ = some (.int .i64 s.gone) := by
 have hlt := (List.getElem?_eq_some_iff.1 hk).1
 obtain ⟨b, off, hA, hb, hc⟩ := h.1.at_ (by rw [← h.2]; exact hlt)
 have hf : ∀ j u, s.cells[j]? = some u → (l.flatMap Sg.cells)[k * 4 + j]? = some u := fun j u hj => by
  have hj4 : j < 4 := by
   have := (List.getElem?_eq_some_iff.1 hj).1
   exact this
  rw [flat_at Sg.cells 4 (fun _ => rfl) l k j s hk hj4]
  exact hj
 exact ⟨b, off, hA, hb, hc _ _ (hf 0 _ rfl), by have := hc _ _ (hf 1 _ rfl); rwa [← Nat.add_assoc] at this, by have := hc _ _ (hf 2 _ rfl); rwa [← Nat.add_assoc] at this, by have := hc _ _ (hf 3 _ rfl); rwa [← Nat.add_assoc] at this⟩
theorem SegsIn.keep {w w' : World} {B : Nat} {A : Option Addr} {n : Nat} {l : List Sg} (h : SegsIn w B A n l) (hb : Below B w w') : SegsIn w' B A n l := ⟨h.1.below hb, h.2⟩
def lastOf : Int → List Sg → Int
 | last, [] => last
 | _, s :: r => lastOf s.id r
theorem bel_new {b : Nat} {w W : World} (h : Below b w W) (_ : w.heap.size ≤ W.heap.size) (hb : b ≤ w.heap.size) (o : Obj) : Below b w (W.alloc o) := h.trans ((bnew (brefl W) o).mono (Nat.le_trans hb h.size))
theorem lastOf_snoc (l : List Sg) (s : Sg) : ∀ x, lastOf x (l ++ [s]) = s.id := by
 induction l with
 | nil => intro x; rfl
 | cons a r ih => intro x; exact ih _
theorem segsOk_append (next : Int) (l r : List Sg) : ∀ x, segsOk next x (l ++ r) ↔ segsOk next x l ∧ segsOk next (lastOf x l) r := by
 induction l with
 | nil => intro x; simp [segsOk, lastOf]
 | cons a m ih => intro x; simp only [List.cons_append, segsOk, lastOf, ih, and_assoc]
set_option linter.unusedVariables false in
theorem check_o (w W0 : World) (B : Nat) (hB : B ≤ w.heap.size) (A : Option Addr) (n c : Nat) (l : List Sg) (HS : Hid (SegsIn w B A n l)) (hn : n ≤ 4398046511104) (next last : Int) (hl : last = 0) (pb : Nat) (hpb : w.heap.size = pb)
  (HP : Hid (∀ W, Below (w.heap.size + 1) W0 W → W.cell? ⟨pb, 0, none⟩ = some (.int .i64 next))) (HW : Hid (Below w.heap.size w W0 ∧ w.heap.size + 1 ≤ W0.heap.size))
  (c0 c4 c6 c7 c8 c9 c10 c11 c12 c13 c14 u2 u5 u18 u19 u20 u21 u22 u23 u24 u25 u26 u27 u28 u29 u30 u31 u32 u33 u34 u35 u36 u37 u38 u39 u40 u41 u42 u43 u44 u45 u46 u47 u48 u49 u50 u51 u52 u53 u54 u55 u56 u57 u58 u59 u60 u61 u62 u63 u64 u65 u66 u67 u68 u69 u70 u71 u72 u73 u74 u75 u76 u77 : Value) (Q0 : Exit → Act → World → Prop) (hQ0 : ∀ c (a a' : Act) w, a.defers = a'.defers → Q0 (.panic c) a w → Q0 (.panic c) a' w)
  (hret : ∀ (W : World) (x3 x17 u5 u18 u19 u20 u21 u22 u23 u24 u25 u26 u27 u28 u29 u30 u31 u32 u33 u34 u35 u36 u37 u38 u39 u40 u41 u42 u43 u44 u45 u46 u47 u48 u49 u50 u51 u52 u53 u54 u55 u56 u57 u58 u59 u60 u61 u62 u63 u64 u65 u66 u67 u68 u69 u70 u71 u72 u73 u74 u75 u76 u77 : Value), Hid (Below w.heap.size w W) → Hid (¬ segsOk next 0 l) → Q0 .ret ⟨List.toArray (c0 :: .pointer (some ⟨pb, 0, none⟩) :: .int .i64 1 :: x3 :: c4 :: u5 :: c6 :: c7 :: c8 :: c9 :: c10 :: c11 :: c12 :: c13 :: c14 :: .slice A n c :: .int .i64 (n : Int) :: x17 :: u18 :: u19 :: u20 :: u21 :: u22 :: u23 :: u24 :: u25 :: u26 :: u27 :: u28 :: u29 :: u30 :: u31 :: u32 :: u33 :: u34 :: u35 :: u36 :: u37 :: u38 :: u39 :: u40 :: u41 :: u42 :: u43 :: u44 :: u45 :: u46 :: u47 :: u48 :: u49 :: u50 :: u51 :: u52 :: u53 :: u54 :: u55 :: u56 :: u57 :: u58 :: u59 :: u60 :: u61 :: u62 :: u63 :: u64 :: u65 :: u66 :: u67 :: u68 :: u69 :: u70 :: u71 :: u72 :: u73 :: u74 :: u75 :: u76 :: u77 :: []), []⟩ W)
  (hexit : ∀ (W : World) (x3 x17 u2 u5 u18 u19 u20 u21 u22 u23 u24 u25 u26 u27 u28 u29 u30 u31 u32 u33 u34 u35 u36 u37 u38 u39 u40 u41 u42 u43 u44 u45 u46 u47 u48 u49 u50 u51 u52 u53 u54 u55 u56 u57 u58 u59 u60 u61 u62 u63 u64 u65 u66 u67 u68 u69 u70 u71 u72 u73 u74 u75 u76 u77 : Value), Hid (Below w.heap.size w W) → Hid (segsOk next 0 l) → Q0 (.exit 0) ⟨List.toArray (c0 :: .pointer (some ⟨pb, 0, none⟩) :: u2 :: x3 :: c4 :: u5 :: c6 :: c7 :: c8 :: c9 :: c10 :: c11 :: c12 :: c13 :: c14 :: .slice A n c :: .int .i64 (n : Int) :: x17 :: u18 :: u19 :: u20 :: u21 :: u22 :: u23 :: u24 :: u25 :: u26 :: u27 :: u28 :: u29 :: u30 :: u31 :: u32 :: u33 :: u34 :: u35 :: u36 :: u37 :: u38 :: u39 :: u40 :: u41 :: u42 :: u43 :: u44 :: u45 :: u46 :: u47 :: u48 :: u49 :: u50 :: u51 :: u52 :: u53 :: u54 :: u55 :: u56 :: u57 :: u58 :: u59 :: u60 :: u61 :: u62 :: u63 :: u64 :: u65 :: u66 :: u67 :: u68 :: u69 :: u70 :: u71 :: u72 :: u73 :: u74 :: u75 :: u76 :: u77 :: []), []⟩ W) :
  Code.wp Tryz.prog (.loop (loopOf Tryz.f10 0)) Q0 ⟨List.toArray (c0 :: .pointer (some ⟨pb, 0, none⟩) :: u2 :: .int .i64 last :: c4 :: u5 :: c6 :: c7 :: c8 :: c9 :: c10 :: c11 :: c12 :: c13 :: c14 :: .slice A n c :: .int .i64 (n : Int) :: .int .i64 (0 : Int) :: u18 :: u19 :: u20 :: u21 :: u22 :: u23 :: u24 :: u25 :: u26 :: u27 :: u28 :: u29 :: u30 :: u31 :: u32 :: u33 :: u34 :: u35 :: u36 :: u37 :: u38 :: u39 :: u40 :: u41 :: u42 :: u43 :: u44 :: u45 :: u46 :: u47 :: u48 :: u49 :: u50 :: u51 :: u52 :: u53 :: u54 :: u55 :: u56 :: u57 :: u58 :: u59 :: u60 :: u61 :: u62 :: u63 :: u64 :: u65 :: u66 :: u67 :: u68 :: u69 :: u70 :: u71 :: u72 :: u73 :: u74 :: u75 :: u76 :: u77 :: []), []⟩ W0 := by
 have hlen := HS.out.2
 conv => arg 2; arg 1; whnf
 go_loopw [3, 17] (fun lv iv wr => ∃ i : Nat, i ≤ n ∧ lv = .int .i64 (lastOf 0 (l.take i)) ∧ iv = .int .i64 (i : Int) ∧ Hid (Below (w.heap.size + 1) W0 wr) ∧ Hid (segsOk next 0 (l.take i))) (fun _ iv _ => n - (intOf iv).toNat)
 case atStart => exact ⟨0, Nat.zero_le _, by rw [hl]; rfl, rfl, Lib.hid ((brefl W0).mono HW.out.2), Lib.hid trivial⟩
 case round =>
  obtain ⟨i, hi, rfl, rfl, HB, HI⟩ := hrel
  have hbs := HB.out.size
  have hws := HW.out.2
  have HBW : Hid (Below w.heap.size w wr) := HW.out.1.trans (HB.out.mono (by omega))
  by_cases hin : i < n
  ·obtain ⟨s, hs⟩ : ∃ s, l[i]? = some s := ⟨l[i]'(by omega), List.getElem?_eq_getElem _⟩
   have HSW := Lib.hid (HS.out.keep (HBW.out.mono hB))
   obtain ⟨b, off, rfl, hb, c0, c1, c2, c3⟩ := HSW.out.at_ hs
   have hbw : b < wr.heap.size := by have := HBW.out.size; omega
   have HSS := Lib.hid hs
   have q0 : decide ((i : Int) < (n : Int)) = true := decide_eq_true (by omega)
   have hpw := HP.out wr HB.out
   have hpw2 : pb < wr.heap.size := by omega
   have HTK : Hid (l.take (i + 1) = l.take i ++ [s]) := by show _ = _; rw [List.take_add_one, hs]; rfl
   have HSPL : Hid (l = l.take (i + 1) ++ l.drop (i + 1)) := (List.take_append_drop ..).symm
   obtain ⟨LO, hLO⟩ : ∃ LO, lastOf 0 (l.take i) = LO := ⟨_, rfl⟩
   have HLO := Lib.hid hLO
   rw [hLO]
   obtain ⟨id, docs, gen, gone⟩ := s
   simp only at c0 c1 c2 c3
   clear hs hLO
   have hba := bnew (brefl wr) (.cells #[.int .i64 id, .int .i64 docs, .int .i64 gen, .int .i64 gone] 61)
   have hnw := heap_alloc_new wr (.cells #[.int .i64 id, .int .i64 docs, .int .i64 gen, .int .i64 gone] 61)
   have HBA2 := Lib.hid (HBW.out.trans (hba.mono HBW.out.size))
   clear hba hnw
   have hcase : Sg.ok next LO ⟨id, docs, gen, gone⟩ ∨ ¬ Sg.ok next LO ⟨id, docs, gen, gone⟩ := Decidable.em _
   have HBAD : Hid (¬ Sg.ok next LO ⟨id, docs, gen, gone⟩ → ¬ segsOk next 0 l) := fun hno hall => hno (by
    rw [HSPL.out, HTK.out, List.append_assoc, segsOk_append] at hall
    have h2 := hall.2
    rw [HLO.out] at h2
    exact h2.1)
   by_cases h0 : id ≤ LO
   ·have p0 : decide (id ≤ LO) = true := decide_eq_true h0
    have HNO := HBAD.out (fun h => by unfold Sg.ok at h; simp only at h; omega)
    have HNO := Lib.hid HNO
    clear h0
    go_wp2_with fail
    exact hret _ _ _ _ _ _ _ _ _ _ _ _ _ _ _ _ _ _ _ _ _ _ _ _ _ _ _ _ _ _ _ _ _ _ _ _ _ _ _ _ _ _ _ _ _ _ _ _ _ _ _ _ _ _ _ _ _ _ _ _ _ _ _ _ HBA2 HNO
   have p0 : decide (id ≤ LO) = false := decide_eq_false h0
   by_cases h1 : id ≥ next
   ·have p1 : decide (id ≥ next) = true := decide_eq_true h1
    have HNO := HBAD.out (fun h => by unfold Sg.ok at h; simp only at h; omega)
    have HNO := Lib.hid HNO
    clear h1
    go_wp2_with fail
    exact hret _ _ _ _ _ _ _ _ _ _ _ _ _ _ _ _ _ _ _ _ _ _ _ _ _ _ _ _ _ _ _ _ _ _ _ _ _ _ _ _ _ _ _ _ _ _ _ _ _ _ _ _ _ _ _ _ _ _ _ _ _ _ _ _ HBA2 HNO
   have p1 : decide (id ≥ next) = false := decide_eq_false h1
   by_cases h2 : docs < 1
   ·have p2 : decide (docs < 1) = true := decide_eq_true h2
    have HNO := HBAD.out (fun h => by unfold Sg.ok at h; simp only at h; omega)
    have HNO := Lib.hid HNO
    clear h2
    go_wp2_with fail
    exact hret _ _ _ _ _ _ _ _ _ _ _ _ _ _ _ _ _ _ _ _ _ _ _ _ _ _ _ _ _ _ _ _ _ _ _ _ _ _ _ _ _ _ _ _ _ _ _ _ _ _ _ _ _ _ _ _ _ _ _ _ _ _ _ _ HBA2 HNO
   have p2 : decide (docs < 1) = false := decide_eq_false h2
   by_cases h3 : docs > 1048576
   ·have p3 : decide (docs > 1048576) = true := decide_eq_true h3
    have HNO := HBAD.out (fun h => by unfold Sg.ok at h; simp only at h; omega)
    have HNO := Lib.hid HNO
    clear h3
    go_wp2_with fail
    exact hret _ _ _ _ _ _ _ _ _ _ _ _ _ _ _ _ _ _ _ _ _ _ _ _ _ _ _ _ _ _ _ _ _ _ _ _ _ _ _ _ _ _ _ _ _ _ _ _ _ _ _ _ _ _ _ _ _ _ _ _ _ _ _ _ HBA2 HNO
   have p3 : decide (docs > 1048576) = false := decide_eq_false h3
   by_cases h4 : gen < 0
   ·have p4 : decide (gen < 0) = true := decide_eq_true h4
    have HNO := HBAD.out (fun h => by unfold Sg.ok at h; simp only at h; omega)
    have HNO := Lib.hid HNO
    clear h4
    go_wp2_with fail
    exact hret _ _ _ _ _ _ _ _ _ _ _ _ _ _ _ _ _ _ _ _ _ _ _ _ _ _ _ _ _ _ _ _ _ _ _ _ _ _ _ _ _ _ _ _ _ _ _ _ _ _ _ _ _ _ _ _ _ _ _ _ _ _ _ _ HBA2 HNO
   have p4 : decide (gen < 0) = false := decide_eq_false h4
   by_cases h5 : gen ≥ next
   ·have p5 : decide (gen ≥ next) = true := decide_eq_true h5
    have HNO := HBAD.out (fun h => by unfold Sg.ok at h; simp only at h; omega)
    have HNO := Lib.hid HNO
    clear h5
    go_wp2_with fail
    exact hret _ _ _ _ _ _ _ _ _ _ _ _ _ _ _ _ _ _ _ _ _ _ _ _ _ _ _ _ _ _ _ _ _ _ _ _ _ _ _ _ _ _ _ _ _ _ _ _ _ _ _ _ _ _ _ _ _ _ _ _ _ _ _ _ HBA2 HNO
   have p5 : decide (gen ≥ next) = false := decide_eq_false h5
   by_cases h6 : gone < 0
   ·have p6 : decide (gone < 0) = true := decide_eq_true h6
    have HNO := HBAD.out (fun h => by unfold Sg.ok at h; simp only at h; omega)
    have HNO := Lib.hid HNO
    clear h6
    go_wp2_with fail
    exact hret _ _ _ _ _ _ _ _ _ _ _ _ _ _ _ _ _ _ _ _ _ _ _ _ _ _ _ _ _ _ _ _ _ _ _ _ _ _ _ _ _ _ _ _ _ _ _ _ _ _ _ _ _ _ _ _ _ _ _ _ _ _ _ _ HBA2 HNO
   have p6 : decide (gone < 0) = false := decide_eq_false h6
   by_cases h7 : gone > docs
   ·have p7 : decide (gone > docs) = true := decide_eq_true h7
    have HNO := HBAD.out (fun h => by unfold Sg.ok at h; simp only at h; omega)
    have HNO := Lib.hid HNO
    clear h7
    go_wp2_with fail
    exact hret _ _ _ _ _ _ _ _ _ _ _ _ _ _ _ _ _ _ _ _ _ _ _ _ _ _ _ _ _ _ _ _ _ _ _ _ _ _ _ _ _ _ _ _ _ _ _ _ _ _ _ _ _ _ _ _ _ _ _ _ _ _ _ _ HBA2 HNO
   have p7 : decide (gone > docs) = false := decide_eq_false h7
   by_cases g0 : gen = 0 <;> by_cases o0 : gone = 0
   ·have p8 : (gen == 0) = true := by simpa using g0
    have p9 : (gone == 0) = true := by simpa using o0
    have HOK : Hid (segsOk next 0 (l.take (i + 1))) := by
     show segsOk _ _ _
     rw [HTK.out, segsOk_append, HLO.out]
     refine ⟨HI.out, ?_, trivial⟩
     unfold Sg.ok
     simp only
     omega
    have HLN : Hid (lastOf 0 (l.take (i + 1)) = id) := by show _ = _; rw [HTK.out, lastOf_snoc]
    have HBN : Hid (Below (w.heap.size + 1) W0 (wr.alloc (.cells #[.int .i64 id, .int .i64 docs, .int .i64 gen, .int .i64 gone] 61))) := bel_new HB.out hbs hws _
    clear g0 o0
    go_wp2_with fail
    go_roundw
    case rel => exact ⟨i + 1, by omega, by rw [HLN.out], by go_num, HBN, HOK⟩
    case measure => simp [intOf]; omega
   ·have p8 : (gen == 0) = true := by simpa using g0
    have p9 : (gone == 0) = false := by simpa using o0
    have HNO := HBAD.out (fun h => by unfold Sg.ok at h; simp only at h; omega)
    have HNO := Lib.hid HNO
    clear g0 o0
    go_wp2_with fail
    exact hret _ _ _ _ _ _ _ _ _ _ _ _ _ _ _ _ _ _ _ _ _ _ _ _ _ _ _ _ _ _ _ _ _ _ _ _ _ _ _ _ _ _ _ _ _ _ _ _ _ _ _ _ _ _ _ _ _ _ _ _ _ _ _ _ HBA2 HNO
   ·have p8 : (gen == 0) = false := by simpa using g0
    have p9 : (gone == 0) = true := by simpa using o0
    have HNO := HBAD.out (fun h => by unfold Sg.ok at h; simp only at h; omega)
    have HNO := Lib.hid HNO
    clear g0 o0
    go_wp2_with fail
    exact hret _ _ _ _ _ _ _ _ _ _ _ _ _ _ _ _ _ _ _ _ _ _ _ _ _ _ _ _ _ _ _ _ _ _ _ _ _ _ _ _ _ _ _ _ _ _ _ _ _ _ _ _ _ _ _ _ _ _ _ _ _ _ _ _ HBA2 HNO
   ·have p8 : (gen == 0) = false := by simpa using g0
    have p9 : (gone == 0) = false := by simpa using o0
    have HOK : Hid (segsOk next 0 (l.take (i + 1))) := by
     show segsOk _ _ _
     rw [HTK.out, segsOk_append, HLO.out]
     refine ⟨HI.out, ?_, trivial⟩
     unfold Sg.ok
     simp only
     omega
    have HLN : Hid (lastOf 0 (l.take (i + 1)) = id) := by show _ = _; rw [HTK.out, lastOf_snoc]
    have HBN : Hid (Below (w.heap.size + 1) W0 (wr.alloc (.cells #[.int .i64 id, .int .i64 docs, .int .i64 gen, .int .i64 gone] 61))) := bel_new HB.out hbs hws _
    clear g0 o0
    go_wp2_with fail
    go_roundw
    case rel => exact ⟨i + 1, by omega, by rw [HLN.out], by go_num, HBN, HOK⟩
    case measure => simp [intOf]; omega
  ·obtain rfl : i = n := by omega
   have q0 : decide ((i : Int) < (i : Int)) = false := decide_eq_false (by omega)
   rw [← hlen, List.take_length] at HI
   go_wp2_with fail
   exact hexit wr _ _ _ _ _ _ _ _ _ _ _ _ _ _ _ _ _ _ _ _ _ _ _ _ _ _ _ _ _ _ _ _ _ _ _ _ _ _ _ _ _ _ _ _ _ _ _ _ _ _ _ _ _ _ _ _ _ _ _ _ _ _ _ _ HBW HI
end Go.Proofs.YtkhemhiifhggmaaGreatDoor
namespace Go.Proofs.YtkhemhiifhggmaaGreatDoor
open Go.RowKit Go.Maps
set_option linter.unusedVariables false
theorem check_any (w : World) (B : Nat) (hB : B ≤ w.heap.size) (A : Option Addr) (n c : Nat) (l : List Sg) (HS : Hid (SegsIn w B A n l)) (hn : n ≤ 4398046511104) (next : Int) :
  Calls Tryz.prog 10 #[.agg #[.int .i64 next, .slice A n c]] w fun e w' => e = .returned (.int .i64 (checkP next l)) ∧ Below w.heap.size w w' := by
 have hpb := bnew (brefl w) (.cells #[.int .i64 next, .slice A n c] 24)
 have hnw := heap_alloc_new w (.cells #[.int .i64 next, .slice A n c] 24)
 by_cases h1 : next < 1
 ·have p0 : decide (next < 1) = true := decide_eq_true h1
  have HC : Hid (checkP next l = 1) := if_neg (fun h => by have := h.1; omega)
  have HB := Lib.hid hpb
  clear hpb hnw h1
  go_enter Tryz.func10, Tryz.ntmps10
  go_wp2_with fail
  go_ret
  exact ⟨by rw [HC.out]; rfl, HB.out⟩
 ·have p0 : decide (next < 1) = false := decide_eq_false h1
  by_cases h2 : next > 999999999
  ·have p1 : decide (next > 999999999) = true := decide_eq_true h2
   have HC : Hid (checkP next l = 1) := if_neg (fun h => by have := h.2.1; omega)
   have HB := Lib.hid hpb
   clear hpb hnw h1 h2
   go_enter Tryz.func10, Tryz.ntmps10
   go_wp2_with fail
   go_ret
   exact ⟨by rw [HC.out]; rfl, HB.out⟩
  ·have p1 : decide (next > 999999999) = false := decide_eq_false h2
   have HB := Lib.hid hpb
   have HNW := Lib.hid hnw
   clear hpb hnw
   go_enter Tryz.func10, Tryz.ntmps10
   go_wp2_with fail
   refine check_o w _ B hB A n c l HS hn next 0 rfl _ rfl ?_ ?_ _ _ _ _ _ _ _ _ _ _ _ _ _ _ _ _ _ _ _ _ _ _ _ _ _ _ _ _ _ _ _ _ _ _ _ _ _ _ _ _ _ _ _ _ _ _ _ _ _ _ _ _ _ _ _ _ _ _ _ _ _ _ _ _ _ _ _ _ _ _ _ _ _ _ (fun c a a' w hd h => by cases a; cases a'; cases hd; exact h) ?_ ?_
   ·refine Lib.hid fun W h => ?_
    exact (h.cell (p := ⟨w.heap.size, 0, none⟩) (by show w.heap.size < _; omega)).trans (by simp)
   ·exact Lib.hid ⟨HB.out, by simp⟩
   ·intro W x3 x17 u5 u18 u19 u20 u21 u22 u23 u24 u25 u26 u27 u28 u29 u30 u31 u32 u33 u34 u35 u36 u37 u38 u39 u40 u41 u42 u43 u44 u45 u46 u47 u48 u49 u50 u51 u52 u53 u54 u55 u56 u57 u58 u59 u60 u61 u62 u63 u64 u65 u66 u67 u68 u69 u70 u71 u72 u73 u74 u75 u76 u77 HBW HO
    have HC : Hid (checkP next l = 1) := if_neg (fun h => HO.out h.2.2)
    go_wp2_with fail
    go_ret
    exact ⟨by rw [HC.out]; rfl, HBW.out⟩
   ·intro W x3 x17 u2 u5 u18 u19 u20 u21 u22 u23 u24 u25 u26 u27 u28 u29 u30 u31 u32 u33 u34 u35 u36 u37 u38 u39 u40 u41 u42 u43 u44 u45 u46 u47 u48 u49 u50 u51 u52 u53 u54 u55 u56 u57 u58 u59 u60 u61 u62 u63 u64 u65 u66 u67 u68 u69 u70 u71 u72 u73 u74 u75 u76 u77 HBW HO
    have HC : Hid (checkP next l = 0) := if_pos ⟨by omega, by omega, HO.out⟩
    go_wp2_with fail
    go_ret
    exact ⟨by rw [HC.out]; rfl, HBW.out⟩
end Go.Proofs.YtkhemhiifhggmaaGreatDoor
namespace Go.Proofs.YtkhemhiifhggmaaGreatDoor
open Go.RowKit Go.Maps
set_option linter.unusedVariables false
def Sg.nums (s : Sg) : List Int := [s.id, s.docs, s.gen, s.gone]
def segB (s : Sg) : List UInt8 := by8 (numsI s.nums)
def textP (next : Int) (l : List Sg) : List UInt8 := by8 (numsI [next, (l.length : Int)]) ++ l.flatMap segB
theorem numsI_len4 {zs : List Int} (h : ∀ z ∈ zs, pos63 z) : (numsI zs).length ≤ 9 * zs.length := by
 induction zs with
 | nil => simp [numsI]
 |
  cons z r ih =>
  have h1 := (numI_len (h z (List.mem_cons_self ..))).2
  have h2 := ih fun y hy => h y (List.mem_cons_of_mem _ hy)
  show (numI z ++ numsI r).length ≤ _
  rw [List.length_append, List.length_cons]
  omega
theorem Sg.pos {next last : Int} {s : Sg} (h : s.ok next last) (h0 : 0 ≤ last) (hn : next ≤ 999999999) : ∀ z ∈ s.nums, pos63 z := by
 obtain ⟨h1, h2, h3, h4, h5, h6, h7, h8, _⟩ := h
 intro z hz
 simp only [Sg.nums, List.mem_cons, List.not_mem_nil, or_false] at hz
 rcases hz with rfl | rfl | rfl | rfl <;> exact ⟨by omega, by omega⟩
theorem segsOk_pos {next : Int} (hn : next ≤ 999999999) : ∀ {l : List Sg} {x : Int}, 0 ≤ x → segsOk next x l → ∀ s ∈ l, ∀ z ∈ s.nums, pos63 z
 | [], _, _, _, _, hs => by simp at hs
 |
  a :: r, x, hx, h, s, hs => by
  rcases List.mem_cons.1 hs with rfl | hs
  ·exact Sg.pos h.1 hx hn
  ·exact segsOk_pos hn (x := a.id) (by have := h.1.1; omega) h.2 s hs
theorem flatB_len {l : List Sg} (h : ∀ s ∈ l, ∀ z ∈ s.nums, pos63 z) : (l.flatMap segB).length ≤ 36 * l.length := by
 induction l with
 | nil => simp
 |
  cons a r ih =>
  have h1 := numsI_len4 (h a (List.mem_cons_self ..))
  have h2 := ih fun y hy => h y (List.mem_cons_of_mem _ hy)
  rw [List.flatMap_cons, List.length_append, List.length_cons]
  have h3 : (segB a).length = (numsI a.nums).length := by8_length _
  have h4 : a.nums.length = 4 := rfl
  omega
theorem pack_o (w W0 : World) (B : Nat) (hB : B ≤ w.heap.size) (A : Option Addr) (n c : Nat) (l : List Sg) (HS : Hid (SegsIn w B A n l)) (hn : n ≤ 4398046511104) (HPO : Hid (∀ s ∈ l, ∀ z ∈ s.nums, pos63 z)) (pb : Nat) (t0 : List UInt8) (ht0 : t0.length ≤ 100)
  (HW : Hid (Below w.heap.size w W0))
  (c0 c2 c3 c4 c6 c8 c9 c10 c11 c12 c13 c14 c15 c16 c17 c18 c19 c20 c40 c41 c42 c43 u7 u24 u25 u26 u27 u28 u29 u30 u31 u32 u33 u34 u35 u36 u37 u38 u39 : Value) (Q0 : Exit → Act → World → Prop) (hQ0 : ∀ c (a a' : Act) w, a.defers = a'.defers → Q0 (.panic c) a w → Q0 (.panic c) a' w)
  (hexit : ∀ (W : World) (x23 u7 u24 u25 u26 u27 u28 u29 u30 u31 u32 u33 u34 u35 u36 u37 u38 u39 : Value), Hid (Below w.heap.size w W) → Q0 (.exit 0) ⟨List.toArray (c0 :: .pointer (some ⟨pb, 0, none⟩) :: c2 :: c3 :: c4 :: .string ⟨(t0 ++ l.flatMap segB).toArray⟩ :: c6 :: u7 :: c8 :: c9 :: c10 :: c11 :: c12 :: c13 :: c14 :: c15 :: c16 :: c17 :: c18 :: c19 :: c20 :: .slice A n c :: .int .i64 (n : Int) :: x23 :: u24 :: u25 :: u26 :: u27 :: u28 :: u29 :: u30 :: u31 :: u32 :: u33 :: u34 :: u35 :: u36 :: u37 :: u38 :: u39 :: c40 :: c41 :: c42 :: c43 :: []), []⟩ W) :
  Code.wp Tryz.prog (.loop (loopOf Tryz.f7 0)) Q0 ⟨List.toArray (c0 :: .pointer (some ⟨pb, 0, none⟩) :: c2 :: c3 :: c4 :: .string ⟨t0.toArray⟩ :: c6 :: u7 :: c8 :: c9 :: c10 :: c11 :: c12 :: c13 :: c14 :: c15 :: c16 :: c17 :: c18 :: c19 :: c20 :: .slice A n c :: .int .i64 (n : Int) :: .int .i64 (0 : Int) :: u24 :: u25 :: u26 :: u27 :: u28 :: u29 :: u30 :: u31 :: u32 :: u33 :: u34 :: u35 :: u36 :: u37 :: u38 :: u39 :: c40 :: c41 :: c42 :: c43 :: []), []⟩ W0 := by
 have hlen := HS.out.2
 conv => arg 2; arg 1; whnf
 go_loopw [5, 23] (fun tv iv wr => ∃ i : Nat, i ≤ n ∧ tv = .string ⟨(t0 ++ (l.take i).flatMap segB).toArray⟩ ∧ iv = .int .i64 (i : Int) ∧ Hid (Below w.heap.size w wr)) (fun _ iv _ => n - (intOf iv).toNat)
 case atStart => exact ⟨0, Nat.zero_le _, by simp, rfl, HW⟩
 case round =>
  obtain ⟨i, hi, rfl, rfl, HB⟩ := hrel
  by_cases hin : i < n
  ·obtain ⟨s, hs⟩ : ∃ s, l[i]? = some s := ⟨l[i]'(by omega), List.getElem?_eq_getElem _⟩
   have HSW := Lib.hid (HS.out.keep (HB.out.mono hB))
   obtain ⟨b, off, rfl, hb, c0, c1, c2, c3⟩ := HSW.out.at_ hs
   have hbw : b < wr.heap.size := by have := HB.out.size; omega
   have q0 : decide ((i : Int) < (n : Int)) = true := decide_eq_true (by omega)
   have HTK : Hid ((l.take (i + 1)).flatMap segB = (l.take i).flatMap segB ++ segB s) := by
    show _ = _
    rw [List.take_add_one, hs]
    simp
   have hpo := HPO.out s (List.mem_of_getElem? hs)
   have hfl : ((l.take i).flatMap segB).length ≤ 36 * i := Nat.le_trans (flatB_len fun s hs => HPO.out s (List.mem_of_mem_take hs)) (by rw [List.length_take]; omega)
   have hsl : (segB s).length ≤ 36 := by have := numsI_len4 hpo; have h4 : s.nums.length = 4 := rfl; rw [segB, by8_length]; omega
   obtain ⟨u, hu⟩ : ∃ u, t0 ++ (l.take i).flatMap segB = u := ⟨_, rfl⟩
   have hul : u.length ≤ 36 * i + 100 := by rw [← hu, List.length_append]; omega
   have HU : Hid (u ++ segB s = t0 ++ (l.take (i + 1)).flatMap segB) := by show _ = _; rw [HTK.out, ← List.append_assoc, hu]
   have hcat := cat_arr u (segB s) (by omega)
   rw [hu]
   have HNS := Lib.hid (fun (W : World) (A : Option Addr) (h : Sl W W.heap.size 1 A 4 (s.nums.map (.int .i64))) => numsI_any W A 4 4 W.heap.size s.nums (by omega) h (Nat.le_refl _) hpo)
   have hsb : strOfNums (numsI s.nums) = ⟨(segB s).toArray⟩ := rfl
   rw [hsb] at HNS
   generalize segB s = v at *
   obtain ⟨id, docs, gen, gone⟩ := s
   simp only [Sg.nums] at c0 c1 c2 c3 HNS
   have hba := Lib.hid (HB.out.trans ((bnew (brefl wr) (.cells #[.int .i64 id, .int .i64 docs, .int .i64 gen, .int .i64 gone] 61)).mono HB.out.size))
   clear hs hu hpo hsb
   go_wp2_with fail
   refine (HNS.out _ _ (sl_new _ _ _ 1 4 (by simp) rfl)).mono ?_
   rintro e w2 ⟨rfl, hb2⟩
   have HB2 := Lib.hid (bcall hba.out (bel_alloc (brefl _) hb2))
   clear hb2
   go_wp2_with fail
   go_roundw
   case rel => exact ⟨i + 1, by omega, by rw [HU.out], by go_num, HB2⟩
   case measure => simp [intOf]; omega
  ·obtain rfl : i = n := by omega
   have q0 : decide ((i : Int) < (i : Int)) = false := decide_eq_false (by omega)
   rw [← hlen, List.take_length]
   go_wp2_with fail
   rw [hlen]
   exact hexit wr _ _ _ _ _ _ _ _ _ _ _ _ _ _ _ _ _ _ HB
end Go.Proofs.YtkhemhiifhggmaaGreatDoor
namespace Go.Proofs.YtkhemhiifhggmaaGreatDoor
open Go.RowKit Go.Maps
set_option linter.unusedVariables false
def packP (next : Int) (l : List Sg) : List UInt8 × Int := if PtOk next l then (sealB 2 (textP next l), 0) else ([], 1)
theorem pack_any (w : World) (B : Nat) (hB : B ≤ w.heap.size) (A : Option Addr) (n c : Nat) (l : List Sg) (HS : Hid (SegsIn w B A n l)) (hn : n ≤ 4398046511104) (next : Int) :
  Calls Tryz.prog 7 #[.agg #[.int .i64 next, .slice A n c]] w fun e w' => e = .returned (.tuple #[.string ⟨(packP next l).1.toArray⟩, .int .i64 (packP next l).2]) ∧ Below w.heap.size w w' := by
 have hpb := bnew (brefl w) (.cells #[.int .i64 next, .slice A n c] 24)
 have HB := Lib.hid hpb
 have HC := Lib.hid (check_any (w.alloc (.cells #[.int .i64 next, .slice A n c] 24)) B (by simp; omega) A n c l (Lib.hid (HS.out.keep (hpb.mono hB))) hn next)
 clear hpb
 by_cases hok : PtOk next l
 ·have HP : Hid (packP next l = (sealB 2 (textP next l), 0)) := if_pos hok
  have hck : checkP next l = 0 := if_pos hok
  rw [hck] at HC
  have HPO := Lib.hid (segsOk_pos hok.2.1 (Int.le_refl 0) hok.2.2)
  have hlen := HS.out.2
  have hp2 : ∀ z ∈ [next, (n : Int)], pos63 z := by
   intro z hz
   simp only [List.mem_cons, List.not_mem_nil, or_false] at hz
   rcases hz with rfl | rfl
   ·exact ⟨by have := hok.1; omega, by have := hok.2.1; omega⟩
   ·exact ⟨by omega, by omega⟩
  have HNS := Lib.hid (fun (W : World) (A : Option Addr) (h : Sl W W.heap.size 1 A 2 [.int .i64 next, .int .i64 (n : Int)]) => numsI_any W A 2 2 W.heap.size [next, (n : Int)] (by omega) h (Nat.le_refl _) hp2)
  have ht0 : (by8 (numsI [next, (n : Int)])).length ≤ 100 := by
   have := numsI_len4 hp2
   rw [by8_length]
   simp only [List.length_cons, List.length_nil] at this
   omega
  have HTX : Hid (textP next l = by8 (numsI [next, (n : Int)]) ++ l.flatMap segB) := by show _ = _; rw [textP, hlen]
  have hfl := flatB_len HPO.out
  have htl : (textP next l).length ≤ 36 * n + 100 := by rw [HTX.out, List.length_append]; omega
  simp only [str_by8] at HNS
  generalize by8 (numsI [next, (n : Int)]) = t0 at *
  clear hck hok hp2 hfl
  go_enter Tryz.func7, Tryz.ntmps7
  go_wp2_with fail
  refine HC.out.mono ?_
  rintro e w1 ⟨rfl, hb1⟩
  have HB1 := Lib.hid (bcall HB.out hb1)
  have c0 : w1.cell? ⟨w.heap.size, 0, none⟩ = some (.int .i64 next) := (hb1.cell (p := ⟨w.heap.size, 0, none⟩) (by simp)).trans (by simp)
  have c1 : w1.cell? ⟨w.heap.size, 1, none⟩ = some (.slice A n c) := (hb1.cell (p := ⟨w.heap.size, 1, none⟩) (by simp)).trans (by simp)
  clear hb1
  go_wp2_with fail
  refine (HNS.out _ _ (sl_new _ _ _ 1 2 (by simp) rfl)).mono ?_
  rintro e w2 ⟨rfl, hb2⟩
  have HB2 := Lib.hid (bcall HB1.out (bel_alloc (brefl _) hb2))
  have c2 : w2.cell? ⟨w.heap.size, 1, none⟩ = some (.slice A n c) := (hb2.cell (p := ⟨w.heap.size, 1, none⟩) (by have := (lt_of_cell c1).1; simp; simp at this; omega)).trans (by have := (lt_of_cell c1).1; simp at this; rw [← c1]; exact World.cell?_alloc_lt _ _ ⟨w.heap.size, 1, none⟩ this)
  clear hb2
  go_wp2_with fail
  refine pack_o w w2 B hB A n c l HS hn HPO _ t0 ht0 HB2 _ _ _ _ _ _ _ _ _ _ _ _ _ _ _ _ _ _ _ _ _ _ _ _ _ _ _ _ _ _ _ _ _ _ _ _ _ _ _ _ (fun c a a' w hd h => by cases a; cases a'; cases hd; exact h) ?_
  intro W x23 u7 u24 u25 u26 u27 u28 u29 u30 u31 u32 u33 u34 u35 u36 u37 u38 u39 HBW
  rw [← HTX.out]
  have HSL := Lib.hid (fun W => seal_any W 2 (by omega) (textP next l) (by omega))
  clear c0 c1 c2 HC HNS
  go_wp2_with fail
  refine (HSL.out _).mono ?_
  rintro e w3 ⟨rfl, hb3⟩
  have HB3 := Lib.hid (bcall HBW.out hb3)
  clear hb3
  go_wp2_with fail
  go_ret2
  exact ⟨by rw [HP.out]; rfl, HB3.out⟩
 ·have HP : Hid (packP next l = ([], 1)) := if_neg hok
  have hck : checkP next l = 1 := if_neg hok
  rw [hck] at HC
  clear hck hok
  go_enter Tryz.func7, Tryz.ntmps7
  go_wp2_with fail
  refine HC.out.mono ?_
  rintro e w1 ⟨rfl, hb1⟩
  have HB1 := Lib.hid (bcall HB.out hb1)
  clear hb1
  go_wp2_with fail
  go_ret2
  exact ⟨by rw [HP.out]; rfl, HB1.out⟩
end Go.Proofs.YtkhemhiifhggmaaGreatDoor
namespace Go.Proofs.YtkhemhiifhggmaaGreatDoor
open Go.RowKit Go.Maps
set_option linter.unusedVariables false
def Tab (w : World) : Prop := Lib.TabIs Tryz.prog w "internal/strconv.uint64pow10" .u64 Lib.pow10Tab
theorem tab_gn : Tryz.prog.globalNamed "internal/strconv.uint64pow10" = some 2 := by kernel_rfl
theorem Tab.keep {w w' : World} {B : Nat} (h : Tab w) (hB : 2 < B) (hb : Below B w w') : Tab w' := by
 unfold Tab Lib.TabIs World.var? at h ⊢
 rw [tab_gn] at h ⊢
 simp only [Option.bind_some] at h ⊢
 rw [hb.block _ hB]
 exact h
theorem Tab.lt {w : World} (h : Tab w) : 2 < w.heap.size := by
 unfold Tab Lib.TabIs World.var? at h
 rw [tab_gn] at h
 simp only [Option.bind_some] at h
 rcases Nat.lt_or_ge 2 w.heap.size with h' | h'
 ·exact h'
 ·rw [Array.getElem?_eq_none h'] at h; cases h
theorem Tab.below {w w' : World} (h : Tab w) (hb : Below w.heap.size w w') : Tab w' := h.keep h.lt hb
theorem itoa_any (n : Int) (h0 : -9223372036854775808 ≤ n) (h1 : n ≤ 9223372036854775807) (w : World) (ht : Tab w) :
  Calls Tryz.prog 37 #[.int .i64 n] w fun e w' => e = .returned (.string ⟨(Lib.itoa n).toArray⟩) ∧ Below w.heap.size w w' := by
 refine (Tryz.strconv_Itoa n h0 h1 w ht).mono ?_
 rintro e w' ⟨rfl, k, os, rfl⟩
 exact ⟨rfl, Lib.below_grow _ w (Nat.le_refl _) k os⟩
def sizeV : Value → Nat
 | .string s => s.size
 | _ => 0
def pad9 (s : List UInt8) : List UInt8 := List.replicate (9 - s.length) 48 ++ s
def nameP (c : UInt8) (n : Int) : List UInt8 := if (1 ≤ n ∧ n ≤ 999999999) ∧ 97 ≤ c.toNat ∧ c.toNat ≤ 122 then [c, 95] ++ pad9 (Lib.itoa n) else []
theorem name_o (W0 : World) (n cz : Int) (d : List UInt8) (hd : d.length ≤ 40)
  (c2 c3 c4 c6 c7 c8 c9 c10 c11 c12 c13 c14 c15 c16 c17 c18 c19 c20 c21 c27 c28 c29 c30 c31 u22 u23 u24 u25 u26 : Value) (Q0 : Exit → Act → World → Prop) (hQ0 : ∀ c (a a' : Act) w, a.defers = a'.defers → Q0 (.panic c) a w → Q0 (.panic c) a' w)
  (hexit : ∀ (u22 u23 u24 u25 u26 : Value), Q0 (.exit 0) ⟨List.toArray (.int .u8 cz :: .int .i64 n :: c2 :: c3 :: c4 :: .string ⟨(pad9 d).toArray⟩ :: c6 :: c7 :: c8 :: c9 :: c10 :: c11 :: c12 :: c13 :: c14 :: c15 :: c16 :: c17 :: c18 :: c19 :: c20 :: c21 :: u22 :: u23 :: u24 :: u25 :: u26 :: c27 :: c28 :: c29 :: c30 :: c31 :: []), []⟩ W0) :
  Code.wp Tryz.prog (.loop (loopOf Tryz.f12 0)) Q0 ⟨List.toArray (.int .u8 cz :: .int .i64 n :: c2 :: c3 :: c4 :: .string ⟨d.toArray⟩ :: c6 :: c7 :: c8 :: c9 :: c10 :: c11 :: c12 :: c13 :: c14 :: c15 :: c16 :: c17 :: c18 :: c19 :: c20 :: c21 :: u22 :: u23 :: u24 :: u25 :: u26 :: c27 :: c28 :: c29 :: c30 :: c31 :: []), []⟩ W0 := by
 conv => arg 2; arg 1; whnf
 go_loopw [5] (fun sv wr => ∃ k : Nat, k ≤ 9 - d.length ∧ sv = .string ⟨(List.replicate k 48 ++ d).toArray⟩ ∧ wr = W0) (fun sv _ => 9 - sizeV sv)
 case atStart => exact ⟨0, Nat.zero_le _, by simp, rfl⟩
 case round =>
  obtain ⟨k, hk, rfl, rfl⟩ := hrel
  obtain ⟨s, hs⟩ : ∃ s, List.replicate k 48 ++ d = s := ⟨_, rfl⟩
  have hsl : s.length = k + d.length := by rw [← hs, List.length_append, List.length_replicate]
  have hz := size_arr s
  have HS := Lib.hid hs
  rw [hs]
  clear hs
  by_cases h9 : s.length < 9
  ·have q1 : decide ((s.length : Int) < 9) = true := decide_eq_true (by omega)
   have hcat := cat_arr [48] s (by simp; omega)
   have HN : Hid ([48] ++ s = List.replicate (k + 1) 48 ++ d) := by show _ = _; rw [← HS.out]; rfl
   go_wp2_with fail
   go_roundw
   case rel => exact ⟨k + 1, by omega, by rw [← HN.out]; rfl, trivial⟩
   case measure => show 9 - (⟨(48 :: s).toArray⟩ : ByteArray).size < 9 - (⟨s.toArray⟩ : ByteArray).size; rw [size_arr, size_arr, List.length_cons]; omega
  ·have q1 : decide ((s.length : Int) < 9) = false := decide_eq_false (by omega)
   have HN : Hid (s = pad9 d) := by show _ = _; rw [← HS.out, pad9, show k = 9 - d.length by omega]
   go_wp2_with fail
   rw [HN.out]
   exact hexit _ _ _ _ _
theorem nd_le : ∀ (k u : Nat), 1 ≤ k → u < 10 ^ k → Lib.nDigits u ≤ k
 | 0, _, h, _ => absurd h (by omega)
 |
  k + 1, u, _, h => by
  by_cases hu : u < 10
  ·rw [Lib.nDigits_small hu]
   omega
  ·rw [Lib.nDigits_big hu]
   have hk : 1 ≤ k := by
    rcases Nat.eq_zero_or_pos k with rfl | h'
    ·simp at h
     omega
    ·exact h'
   have := nd_le k (u / 10) hk (by rw [Nat.pow_succ] at h; omega)
   omega
theorem itoa_len9 {n : Int} (h0 : 1 ≤ n) (h1 : n ≤ 999999999) : 1 ≤ (Lib.itoa n).length ∧ (Lib.itoa n).length ≤ 9 := by
 obtain ⟨u, rfl⟩ := Int.eq_ofNat_of_zero_le (show 0 ≤ n by omega)
 unfold Lib.itoa
 rw [if_neg (by omega), Int.toNat_natCast, Lib.decDigits_length]
 refine ⟨Lib.nDigits_pos u, ?_⟩
 exact nd_le 9 u (by omega) (by omega)
theorem conv_two (w : World) (a b : Int) : (convert 66 9 (.slice (some ⟨w.heap.size, 0, none⟩) 2 2)).run Tryz.prog (w.alloc (.cells #[.int .u8 a, .int .u8 b] 5)) = .ok (.string ⟨(by8 [a, b]).toArray⟩) (w.alloc (.cells #[.int .u8 a, .int .u8 b] 5)) := by
 have h : (w.alloc (.cells #[.int .u8 a, .int .u8 b] 5)).ownsRow 0 5 1 (.slice (some ⟨w.heap.size, 0, none⟩) 2 2) 2 ([a, b].map (.int .u8)) := own_new w #[.int .u8 a, .int .u8 b] 5 1 2 rfl (by unfold maxLen; omega) rfl (Nat.zero_le _)
 exact convert_own (P := Tryz.prog) Tryz.underlying66 Tryz.underlying5 (dst := 9) Tryz.underlying9 h
theorem pname_any (w : World) (hT : Tab w) (c : UInt8) (n : Int) (h63 : -9223372036854775808 ≤ n ∧ n ≤ 9223372036854775807) :
  Calls Tryz.prog 12 #[.int .u8 (c.toNat : Int), .int .i64 n] w fun e w' => e = .returned (.string ⟨(nameP c n).toArray⟩) ∧ Below w.heap.size w w' := by
 obtain ⟨z, hz⟩ : ∃ z : Int, (c.toNat : Int) = z := ⟨_, rfl⟩
 have hzl : 0 ≤ z ∧ z < 256 := by have := c.toNat_lt; omega
 have HZ := Lib.hid hz
 rw [hz]
 have hno : ¬ ((1 ≤ n ∧ n ≤ 999999999) ∧ 97 ≤ c.toNat ∧ c.toNat ≤ 122) → nameP c n = [] := fun h => if_neg h
 have HNO := Lib.hid hno
 clear hz hno
 by_cases h0 : n < 1
 ·have p0 : decide (n < 1) = true := decide_eq_true h0
  have HN := Lib.hid (HNO.out (fun h => by omega))
  go_enter Tryz.func12, Tryz.ntmps12
  go_wp2_with fail
  go_ret
  exact ⟨by rw [HN.out]; rfl, brefl w⟩
 have p0 : decide (n < 1) = false := decide_eq_false h0
 by_cases h1 : n > 999999999
 ·have p1 : decide (n > 999999999) = true := decide_eq_true h1
  have HN := Lib.hid (HNO.out (fun h => by omega))
  go_enter Tryz.func12, Tryz.ntmps12
  go_wp2_with fail
  go_ret
  exact ⟨by rw [HN.out]; rfl, brefl w⟩
 have p1 : decide (n > 999999999) = false := decide_eq_false h1
 by_cases h2 : z < 97
 ·have p2 : decide (z < 97) = true := decide_eq_true h2
  have HN := Lib.hid (HNO.out (fun h => by have := HZ.out; omega))
  go_enter Tryz.func12, Tryz.ntmps12
  go_wp2_with fail
  go_ret
  exact ⟨by rw [HN.out]; rfl, brefl w⟩
 have p2 : decide (z < 97) = false := decide_eq_false h2
 by_cases h3 : z > 122
 ·have p3 : decide (z > 122) = true := decide_eq_true h3
  have HN := Lib.hid (HNO.out (fun h => by have := HZ.out; omega))
  go_enter Tryz.func12, Tryz.ntmps12
  go_wp2_with fail
  go_ret
  exact ⟨by rw [HN.out]; rfl, brefl w⟩
 have p3 : decide (z > 122) = false := decide_eq_false h3
 have HN : Hid (nameP c n = [c, 95] ++ pad9 (Lib.itoa n)) := if_pos ⟨⟨by omega, by omega⟩, by have := HZ.out; omega, by have := HZ.out; omega⟩
 have hil := itoa_len9 (n := n) (by omega) (by omega)
 have hpl : (pad9 (Lib.itoa n)).length ≤ 40 := by unfold pad9; rw [List.length_append, List.length_replicate]; omega
 have HI := Lib.hid (itoa_any n h63.1 h63.2 w hT)
 have hb8 : by8 [z, 95] = [c, 95] := by
  show [UInt8.ofNat z.toNat, UInt8.ofNat 95] = _
  rw [← HZ.out, Int.toNat_natCast, UInt8.ofNat_toNat]
  rfl
 have hcat := cat_arr [c, 95] (pad9 (Lib.itoa n)) (by simp; omega)
 rw [← HN.out] at hcat
 have hcv := fun W => conv_two W z 95
 simp only [hb8] at hcv
 clear HNO h0 h1 h2 h3 hb8
 go_enter Tryz.func12, Tryz.ntmps12
 go_wp2_with fail
 refine HI.out.mono ?_
 rintro e w1 ⟨rfl, hb1⟩
 have HB1 := Lib.hid hb1
 clear hb1
 go_wp2_with fail
 refine name_o w1 n z (Lib.itoa n) (by omega) _ _ _ _ _ _ _ _ _ _ _ _ _ _ _ _ _ _ _ _ _ _ _ _ _ _ _ _ _ _ (fun c a a' w hd h => by cases a; cases a'; cases hd; exact h) ?_
 intro u22 u23 u24 u25 u26
 generalize pad9 (Lib.itoa n) = S at *
 have hcv1 := hcv w1
 go_wp2_with fail
 go_ret
 exact ⟨rfl, bnew HB1.out _⟩
end Go.Proofs.YtkhemhiifhggmaaGreatDoor
namespace Go.Proofs.YtkhemhiifhggmaaGreatDoor
open Go.RowKit
structure But (S : Nat → Prop) (w w' : World) : Prop where
 os : w'.os = w.os
 tape : w'.tape = w.tape
 output : w'.output = w.output
 size : w.heap.size ≤ w'.heap.size
 block : ∀ k, k < w.heap.size → ¬ S k → w'.heap[k]? = w.heap[k]?
theorem But.refl (S : Nat → Prop) (w : World) : But S w w := ⟨rfl, rfl, rfl, Nat.le_refl _, fun _ _ _ => rfl⟩
theorem But.trans {S S' : Nat → Prop} {a b c : World} (h : But S a b) (k : But S' b c) (hS : ∀ i, S' i → S i ∨ a.heap.size ≤ i) : But S a c :=
 ⟨k.os.trans h.os, k.tape.trans h.tape, k.output.trans h.output, Nat.le_trans h.size k.size, fun i hi hn => (k.block i (Nat.lt_of_lt_of_le hi h.size) fun hs => (hS i hs).elim hn (by omega)).trans (h.block i hi hn)⟩
theorem But.below {S : Nat → Prop} {N : Nat} {w w' : World} (h : But S w w') (hN : N ≤ w.heap.size) (hS : ∀ i, S i → N ≤ i) : Below N w w' :=
 ⟨h.os, h.tape, h.output, h.size, fun i hi => h.block i (by omega) fun hs => by have := hS i hs; omega⟩
theorem But.at_ {S : Nat → Prop} {w w' : World} (h : But S w w') {k : Nat} {o : Obj} (hk : w.heap[k]? = some o) (hn : ¬ S k) : w'.heap[k]? = some o :=
 (h.block k (Array.getElem?_eq_some_iff.1 hk).1 hn).trans hk
end Go.Proofs.YtkhemhiifhggmaaGreatDoor
