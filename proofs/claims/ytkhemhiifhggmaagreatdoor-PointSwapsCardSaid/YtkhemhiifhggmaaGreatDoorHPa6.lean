/- seal.Sum. -/
import Derived.Test.YtkhemhiifhggmaaGreatDoorProg
import Derived.Test.YtkhemhiifhggmaaGreatDoorHPa5
import Derived.Test.YtkhemhiifhggmaaGreatDoorHPa1
set_option maxRecDepth 100000
set_option maxHeartbeats 40000000
namespace Go.Proofs.YtkhemhiifhggmaaGreatDoor
open Go.RowKit
def crcI (c : Int) : Int := bits .xor .u32 (c / 2) (bits .and .u32 3988292384 (IntKind.u32.wrap (-(bits .and .u32 c 1))))
def crcN : Nat → Int → Int
 | 0, c => c
 | k + 1, c => crcI (crcN k c)
def crcT (c : Int) : List UInt8 → Int
 | [] => c
 | b :: r => crcT (crcN 8 (bits .xor .u32 c (b.toNat : Int))) r
theorem crcT_snoc (c : Int) (l : List UInt8) (b : UInt8) : crcT c (l ++ [b]) = crcN 8 (bits .xor .u32 (crcT c l) (b.toNat : Int)) := by
 induction l generalizing c with
 | nil => rfl
 | cons x r ih => exact ih _
theorem bits_u32 (op : BinOp) (x y : Int) : 0 ≤ bits op .u32 x y ∧ bits op .u32 x y < 4294967296 := by
 unfold bits
 simp only []
 rw [IntKind.wrap_u32]
 omega
theorem crcN_range {k : Nat} {c : Int} (h : 0 ≤ c ∧ c < 4294967296) : 0 ≤ crcN k c ∧ crcN k c < 4294967296 := by
 cases k with
 | zero => exact h
 |
  succ k =>
  show 0 ≤ crcI (crcN k c) ∧ crcI (crcN k c) < _
  unfold crcI
  exact bits_u32 _ _ _
theorem crcT_range {l : List UInt8} {c : Int} (h : 0 ≤ c ∧ c < 4294967296) : 0 ≤ crcT c l ∧ crcT c l < 4294967296 := by
 induction l generalizing c with
 | nil => exact h
 | cons b r ih => exact ih (crcN_range (bits_u32 _ _ _))
set_option linter.unusedVariables false in
theorem sum_k (W0 : World) (c : Int) (hc : 0 ≤ c ∧ c < 4294967296)
  (c0 c1 c2 c4 c5 c6 c7 c8 c9 c10 c11 c12 c13 c14 c15 c26 c27 c28 u17 u18 u19 u20 u21 u22 u23 u24 u25 : Value) (Q0 : Exit → Act → World → Prop) (hQ0 : ∀ c (a a' : Act) w, a.defers = a'.defers → Q0 (.panic c) a w → Q0 (.panic c) a' w)
  (hexit : ∀ (x16 u17 u18 u19 u20 u21 u22 u23 u24 u25 : Value), Q0 (.exit 2) ⟨List.toArray (c0 :: c1 :: c2 :: .int .u32 (crcN 8 c) :: c4 :: c5 :: c6 :: c7 :: c8 :: c9 :: c10 :: c11 :: c12 :: c13 :: c14 :: c15 :: x16 :: u17 :: u18 :: u19 :: u20 :: u21 :: u22 :: u23 :: u24 :: u25 :: c26 :: c27 :: c28 :: []), []⟩ W0) :
  Code.wp Tryz.prog (.loop (loopOf Tryz.f69 1)) Q0 ⟨List.toArray (c0 :: c1 :: c2 :: .int .u32 c :: c4 :: c5 :: c6 :: c7 :: c8 :: c9 :: c10 :: c11 :: c12 :: c13 :: c14 :: c15 :: .int .i64 (0 : Int) :: u17 :: u18 :: u19 :: u20 :: u21 :: u22 :: u23 :: u24 :: u25 :: c26 :: c27 :: c28 :: []), []⟩ W0 := by
 conv => arg 2; arg 1; whnf
 go_loopw [3, 16] (fun cv kv wr => ∃ k : Nat, k ≤ 8 ∧ cv = .int .u32 (crcN k c) ∧ kv = .int .i64 (k : Int) ∧ wr = W0) (fun _ kv _ => 8 - (intOf kv).toNat)
 case atStart => exact ⟨0, Nat.zero_le _, rfl, rfl, rfl⟩
 case round =>
  obtain ⟨k, hk, rfl, rfl, rfl⟩ := hrel
  by_cases hk8 : k < 8
  ·have q1 : decide ((k : Int) < 8) = true := decide_eq_true (by omega)
   go_wp2_with fail
   go_roundw
   case rel => exact ⟨k + 1, by omega, rfl, by go_num, trivial⟩
   case measure => simp [intOf]; omega
  ·obtain rfl : k = 8 := by omega
   go_wp2_with fail
   exact hexit _ _ _ _ _ _ _ _ _ _
set_option linter.unusedVariables false in
theorem sum_o (W0 : World) (t : List UInt8) (ht : t.length ≤ 9223372036854775807) (c : Int) (hc0 : c = 4294967295)
  (c1 c2 c5 c27 c28 u4 u8 u9 u10 u11 u12 u13 u14 u15 u16 u17 u18 u19 u20 u21 u22 u23 u24 u25 u26 : Value) (Q0 : Exit → Act → World → Prop) (hQ0 : ∀ c (a a' : Act) w, a.defers = a'.defers → Q0 (.panic c) a w → Q0 (.panic c) a' w)
  (hexit : ∀ (x7 u4 u8 u9 u10 u11 u12 u13 u14 u15 u16 u17 u18 u19 u20 u21 u22 u23 u24 u25 u26 : Value), Q0 (.exit 0) ⟨List.toArray (.string ⟨t.toArray⟩ :: c1 :: c2 :: .int .u32 (crcT 4294967295 t) :: u4 :: c5 :: .int .i64 (t.length : Int) :: x7 :: u8 :: u9 :: u10 :: u11 :: u12 :: u13 :: u14 :: u15 :: u16 :: u17 :: u18 :: u19 :: u20 :: u21 :: u22 :: u23 :: u24 :: u25 :: u26 :: c27 :: c28 :: []), []⟩ W0) :
  Code.wp Tryz.prog (.loop (loopOf Tryz.f69 0)) Q0 ⟨List.toArray (.string ⟨t.toArray⟩ :: c1 :: c2 :: .int .u32 c :: u4 :: c5 :: .int .i64 (t.length : Int) :: .int .i64 (0 : Int) :: u8 :: u9 :: u10 :: u11 :: u12 :: u13 :: u14 :: u15 :: u16 :: u17 :: u18 :: u19 :: u20 :: u21 :: u22 :: u23 :: u24 :: u25 :: u26 :: c27 :: c28 :: []), []⟩ W0 := by
 have hz : (⟨t.toArray⟩ : ByteArray).size = t.length := by show t.toArray.size = _; simp
 conv => arg 2; arg 1; whnf
 go_loopw [3, 7] (fun cv kv wr => ∃ k : Nat, k ≤ t.length ∧ cv = .int .u32 (crcT 4294967295 (t.take k)) ∧ kv = .int .i64 (k : Int) ∧ wr = W0) (fun _ kv _ => t.length - (intOf kv).toNat)
 case atStart => exact ⟨0, Nat.zero_le _, by rw [hc0]; rfl, rfl, rfl⟩
 case round =>
  obtain ⟨k, hk, rfl, rfl, rfl⟩ := hrel
  by_cases hkn : k < t.length
  ·have q1 : decide ((k : Int) < (t.length : Int)) = true := decide_eq_true (by omega)
   obtain ⟨b, hb⟩ : ∃ b, t[k]? = some b := ⟨t[k]'hkn, List.getElem?_eq_getElem _⟩
   have hnx : crcT 4294967295 (t.take (k + 1)) = crcN 8 (bits .xor .u32 (crcT 4294967295 (t.take k)) (b.toNat : Int)) := by
    rw [List.take_add_one, hb]
    exact crcT_snoc _ _ _
   have HNX := Lib.hid hnx
   have hr := crcT_range (l := t.take k) (c := 4294967295) (by omega)
   generalize crcT 4294967295 (t.take k) = q at *
   clear hnx
   obtain ⟨z, hzb⟩ : ∃ z : Int, (b.toNat : Int) = z := ⟨_, rfl⟩
   have hbl : 0 ≤ z ∧ z < 256 := by have := b.toNat_lt; omega
   have hzm : z % 4294967296 = z := by omega
   have hbz : ∀ h, ((((⟨t.toArray⟩ : ByteArray)[k]'h).toNat : Nat) : Int) = z := fun h => by
    have h1 := (List.getElem?_eq_some_iff.1 hb).2
    show ((t.toArray[k]).toNat : Int) = _
    rw [List.getElem_toArray, h1]
    exact hzb
   go_wp2_with fail
   refine sum_k _ (bits .xor .u32 q z) (bits_u32 _ _ _) _ _ _ _ _ _ _ _ _ _ _ _ _ _ _ _ _ _ _ _ _ _ _ _ _ _ _ _ ?_ ?_
   ·exact fun c a a' w hd h => hQ0 c a a' w hd h
   intro x16 u17 u18 u19 u20 u21 u22 u23 u24 u25
   go_wp2_with fail
   go_roundw
   case rel => exact ⟨k + 1, by omega, by rw [HNX.out, hzb], by go_num, trivial⟩
   case measure => simp [intOf]; omega
  ·obtain rfl : k = t.length := by omega
   go_wp2_with fail
   rw [List.take_length]
   exact hexit _ _ _ _ _ _ _ _ _ _ _ _ _ _ _ _ _ _ _ _ _
def sumZ (t : List UInt8) : Int := bits .xor .u32 4294967295 (crcT 4294967295 t)
theorem sumZ_range (t : List UInt8) : 0 ≤ sumZ t ∧ sumZ t < 4294967296 := bits_u32 _ _ _
theorem sum_any (W : World) (t : List UInt8) (ht : t.length ≤ 9223372036854775807) :
  Calls Tryz.prog 69 #[.string ⟨t.toArray⟩] W fun e w' => e = .returned (.int .u32 (sumZ t)) ∧ w' = W := by
 have hz : (⟨t.toArray⟩ : ByteArray).size = t.length := by show t.toArray.size = _; simp
 have hr := crcT_range (l := t) (c := 4294967295) (by omega)
 go_enter Tryz.func69, Tryz.ntmps69
 go_wp2_with fail
 refine sum_o _ t ht _ rfl _ _ _ _ _ _ _ _ _ _ _ _ _ _ _ _ _ _ _ _ _ _ _ _ _ _ (fun c a a' w hd h => by cases a; cases a'; cases hd; exact h) ?_
 intro x7 u4 u8 u9 u10 u11 u12 u13 u14 u15 u16 u17 u18 u19 u20 u21 u22 u23 u24 u25 u26
 go_wp2_with fail
 go_ret
 exact ⟨rfl, rfl⟩
end Go.Proofs.YtkhemhiifhggmaaGreatDoor
namespace Go.Proofs.YtkhemhiifhggmaaGreatDoor
open Go.RowKit Go.Maps
theorem size_arr (t : List UInt8) : (⟨t.toArray⟩ : ByteArray).size = t.length := by show t.toArray.size = _; simp
theorem cat_arr (a b : List UInt8) (h : a.length + b.length ≤ 4611686018427387904) (w : World) : (Op.stringOp .add ⟨a.toArray⟩ ⟨b.toArray⟩).run Tryz.prog w = .ok (.string ⟨(a ++ b).toArray⟩) w := by
 have e : (⟨a.toArray⟩ : ByteArray) ++ ⟨b.toArray⟩ = ⟨(a ++ b).toArray⟩ := by
  apply ByteArray.ext
  simp
 rw [← e]
 exact run_string_add_sum w _ _ (by rw [size_arr, size_arr]; omega)
theorem sl_new (w : World) (cs : Array Value) (e size m : Nat) {nb : Nat} (hb : w.heap.size = nb) (hm : cs.size = m * size) : Sl (w.alloc (.cells cs e)) (w.alloc (.cells cs e)).heap.size size (some ⟨nb, 0, none⟩) m cs.toList := by
 subst hb
 refine ⟨by simpa using hm, fun _ => ⟨w.heap.size, 0, rfl, by simp, fun j u hu => ?_⟩⟩
 have := news_at w cs e j u hu
 rwa [Addr.add_lit] at this
theorem bel_alloc {w W W' : World} {o : Obj} (h : Below w.heap.size w W) (hb : Below (W.alloc o).heap.size (W.alloc o) W') : Below w.heap.size w W' := bcall (bnew h o) hb
def blockB (t : List UInt8) : List UInt8 := by8 (numI t.length) ++ t
theorem blockB_len (t : List UInt8) (ht : t.length ≤ 4611686018427387000) : t.length + 1 ≤ (blockB t).length ∧ (blockB t).length ≤ t.length + 9 := by
 have := numI_len (z := (t.length : Int)) ⟨by omega, by omega⟩
 unfold blockB
 rw [List.length_append, by8_length]
 omega
theorem block_any (w : World) (t : List UInt8) (ht : t.length ≤ 4611686018427387000) :
  Calls Tryz.prog 68 #[.string ⟨t.toArray⟩] w fun e w' => e = .returned (.string ⟨(blockB t).toArray⟩) ∧ Below w.heap.size w w' := by
 have hz := size_arr t
 have hp : pos63 (t.length : Int) := ⟨by omega, by omega⟩
 have hl := (numI_len hp).2
 have hcat := cat_arr (by8 (numI t.length)) t (by rw [by8_length]; omega)
 have hone : numsI [(t.length : Int)] = numI t.length := by simp [numsI]
 have HP := Lib.hid hp
 go_enter Tryz.func68, Tryz.ntmps68
 go_wp2_with fail
 refine (numsI_any _ _ _ _ _ [(t.length : Int)] (by omega) (sl_new _ _ _ 1 1 (by simp) rfl) (Nat.le_refl _) (by intro z hz; rw [List.mem_singleton] at hz; rw [hz]; exact HP.out)).mono ?_
 rw [hone, str_by8]
 rintro e w1 ⟨rfl, hb1⟩
 have HB := Lib.hid (bel_alloc (brefl w) hb1)
 clear hb1
 go_wp2_with fail
 go_ret
 exact ⟨rfl, HB.out⟩
def bodyB (k : Nat) (t : List UInt8) : List UInt8 := [103, 108, 115] ++ [UInt8.ofNat k] ++ blockB t
def four (c : Int) : List UInt8 := by8 [c % 256, c / 256 % 256, c / 65536 % 256, c / 16777216]
def sealB (k : Nat) (t : List UInt8) : List UInt8 := bodyB k t ++ four (sumZ (bodyB k t))
theorem bodyB_len (k : Nat) (t : List UInt8) : (bodyB k t).length = (blockB t).length + 4 := by
 unfold bodyB
 simp only [List.length_append, List.length_cons, List.length_nil]
 omega
theorem sealB_len (k : Nat) (t : List UInt8) : (sealB k t).length = (blockB t).length + 8 := by
 unfold sealB four
 rw [List.length_append, by8_length, bodyB_len]
 rfl
theorem cell_over {W W' : World} (h : Below W.heap.size W W') (p : Addr) (v : Value) (hp : W.cell? p = some v) : W'.cell? p = some v := (h.cell (p := p) (lt_of_cell hp).1).trans hp
theorem conv_cell (W : World) (b : Nat) (z : Int) (h : W.cell? ⟨b, 0, none⟩ = some (.int .u8 z)) : (convert 66 9 (.slice (some ⟨b, 0, none⟩) 1 1)).run Tryz.prog W = .ok (.string (strOfNums [z])) W := by
 refine run_convert_bytes_arg W _ _ Tryz.underlying66 Tryz.underlying5 b 0 1 1 [z] rfl ?_ 9 Tryz.underlying9
 intro i hi
 obtain rfl : i = 0 := by omega
 exact h
theorem conv_four (w : World) (a b c d : Int) : (convert 66 9 (.slice (some ⟨w.heap.size, 0, none⟩) 4 4)).run Tryz.prog (w.alloc (.cells #[.int .u8 a, .int .u8 b, .int .u8 c, .int .u8 d] 5)) = .ok (.string ⟨(by8 [a, b, c, d]).toArray⟩) (w.alloc (.cells #[.int .u8 a, .int .u8 b, .int .u8 c, .int .u8 d] 5)) := by
 have h : (w.alloc (.cells #[.int .u8 a, .int .u8 b, .int .u8 c, .int .u8 d] 5)).ownsRow 0 5 1 (.slice (some ⟨w.heap.size, 0, none⟩) 4 4) 4 ([a, b, c, d].map (.int .u8)) := own_new w #[.int .u8 a, .int .u8 b, .int .u8 c, .int .u8 d] 5 1 4 rfl (by unfold maxLen; omega) rfl (Nat.zero_le _)
 exact convert_own (P := Tryz.prog) Tryz.underlying66 Tryz.underlying5 (dst := 9) Tryz.underlying9 h
theorem seal_any (w : World) (k : Nat) (hk : k ≤ 255) (t : List UInt8) (ht : t.length ≤ 4611686018427380000) :
  Calls Tryz.prog 33 #[.int .i64 k, .string ⟨t.toArray⟩] w fun e w' => e = .returned (.tuple #[.string ⟨(sealB k t).toArray⟩, .int .i64 0]) ∧ Below w.heap.size w w' := by
 have hbl := blockB_len t (by omega)
 have hk0 : decide ((k : Int) < 0) = false := decide_eq_false (by omega)
 have hk1 : decide ((k : Int) > 255) = false := decide_eq_false (by omega)
 have hw8 : IntKind.u8.wrap (k : Int) = (k : Int) := by rw [IntKind.wrap_u8]; omega
 have hcv := fun W b => conv_cell W b (k : Int)
 have e1 : strOfNums [(k : Int)] = ⟨[UInt8.ofNat k].toArray⟩ := by simp [strOfNums]
 simp only [e1] at hcv
 have hc1 := cat_arr [103, 108, 115] [UInt8.ofNat k] (by simp)
 have hc2 := cat_arr ([103, 108, 115] ++ [UInt8.ofNat k]) (blockB t) (by simp; omega)
 have HBK := Lib.hid (fun W => block_any W t (by omega))
 have hbd' : (⟨#[103, 108, 115, UInt8.ofNat k]⟩ : ByteArray) ++ ⟨(blockB t).toArray⟩ = ⟨(bodyB k t).toArray⟩ := by
  apply ByteArray.ext
  simp [bodyB]
 have hbd : [103, 108, 115] ++ [UInt8.ofNat k] ++ blockB t = bodyB k t := rfl
 go_enter Tryz.func33, Tryz.ntmps33
 go_wp2_with fail
 go_region_with (first | (go_at_call 68; refine (HBK.out _).mono ?_; rintro e w7 ⟨rfl, hb7⟩; have HB7 := Lib.hid hb7; have h7 := cell_over hb7 ⟨w.heap.size, 0, none⟩ (.int .u8 (k : Int)); (first | simp at h7 | skip); clear hb7))
 all_goals
  clear hcv hc1 hc2 hbd hbd' HBK
  go_wp2_with fail
  refine (sum_any _ _ (by rw [bodyB_len]; omega)).mono ?_
  rintro e _ ⟨rfl, rfl⟩
  have hsr := sumZ_range (bodyB k t)
  obtain ⟨S, hS⟩ : ∃ S, sumZ (bodyB k t) = S := ⟨_, rfl⟩
  have HS := Lib.hid hS
  rw [hS] at hsr ⊢
  clear hS
  have hcv4 := fun W => conv_four W (S % 256) (S / 256 % 256) (S / 65536 % 256) (S / 16777216)
  have hcv5 := fun (W : World) (o : Obj) => conv_four (W.alloc o) (S % 256) (S / 256 % 256) (S / 65536 % 256) (S / 16777216)
  simp only [World.size_alloc] at hcv5
  have hc4 := cat_arr (bodyB k t) (by8 [S % 256, S / 256 % 256, S / 65536 % 256, S / 16777216]) (by rw [bodyB_len, by8_length]; simp; omega)
  have hsl : bodyB k t ++ by8 [S % 256, S / 256 % 256, S / 65536 % 256, S / 16777216] = sealB k t := by unfold sealB four; rw [HS.out]
  rw [hsl] at hc4
  have HSZ := Lib.hid hsl
  clear hsl
  go_wp2_with fail
  go_ret2
  refine ⟨rfl, ?_⟩
  ·repeat (first | exact brefl _ | refine bcall ?_ HB7.out | refine Below.drew ?_ | refine bnew ?_ _)
end Go.Proofs.YtkhemhiifhggmaaGreatDoor
namespace Go.Proofs.YtkhemhiifhggmaaGreatDoor
open Go.RowKit Go.Maps
def readBlk (t : List UInt8) : List UInt8 × Int × List UInt8 :=
 if (readCnt t).2.1 = 0 then if (readCnt t).1 ≤ ((readCnt t).2.2.length : Int) then ((readCnt t).2.2.take (readCnt t).1.toNat, 0, (readCnt t).2.2.drop (readCnt t).1.toNat) else ([], 2, t) else ([], (readCnt t).2.1, t)
theorem readCnt_pos (t : List UInt8) (h : (readCnt t).2.1 = 0) : 0 ≤ (readCnt t).1 := by
 unfold readCnt at h ⊢
 by_cases hc : (readNum t).2.1 = 0 ∧ (readNum t).1 < 0
 ·rw [if_pos hc] at h
  cases h
 ·rw [if_neg hc] at h ⊢
  omega
theorem run_to (t : List UInt8) (k : Nat) (h : k ≤ t.length) (w : World) : (Instr.slice 9 (.string ⟨t.toArray⟩) none (some (.int .i64 (k : Nat))) none).run Tryz.prog w = .ok (.string ⟨(t.take k).toArray⟩) w := by
 have hz := size_arr t
 have e : (⟨t.toArray⟩ : ByteArray).extract 0 k = ⟨(t.take k).toArray⟩ := by
  apply ByteArray.ext
  apply Array.ext'
  simp [ByteArray.data_extract]
 have hb : ((k : Nat) : Int) ≤ ((t.length : Nat) : Int) := by omega
 have hc : (0 : Int) ≤ (k : Nat) := by omega
 simp [Instr.slice, run_underlying Tryz.underlying9, Instr.sliceBounds, run_sliceBound, hz, hb, e]
theorem blk_any (w : World) (b : Nat) (t : List UInt8) (h : CurAt w b t) (ht : t.length ≤ 1125899906842624) : Calls Tryz.prog 76 #[.pointer (some ⟨b, 0, none⟩)] w fun e w' => e = .returned (.tuple #[.string ⟨(readBlk t).1.toArray⟩, .int .i64 (readBlk t).2.1]) ∧ CurAt w' b (readBlk t).2.2 ∧ w.grownBy w' (some b) := by
 have c0 := cell_of_row w b 0 _ _ (0, 0) h
 simp at c0
 have HN := Lib.hid (count_any w b t h ht)
 have hp := readCnt_pos t
 by_cases he : (readCnt t).2.1 = 0
 ·by_cases hl : (readCnt t).1 ≤ ((readCnt t).2.2.length : Int)
  ·have HR : readBlk t = ((readCnt t).2.2.take (readCnt t).1.toNat, 0, (readCnt t).2.2.drop (readCnt t).1.toNat) := by unfold readBlk; rw [if_pos he, if_pos hl]
   have h0 := hp he
   rw [HR]
   rw [he] at HN
   generalize (readCnt t).2.2 = u at *
   generalize (readCnt t).1 = n at *
   obtain ⟨k, rfl⟩ := Int.eq_ofNat_of_zero_le h0
   have hk : k ≤ u.length := by omega
   have hz := size_arr u
   have q2 : decide ((k : Int) > (u.length : Int)) = false := decide_eq_false (by omega)
   have r1 := run_to u k hk
   have r2 := run_from u k hk
   simp only [Int.toNat_natCast]
   clear h HR he hp hl h0
   go_enter Tryz.func76, Tryz.ntmps76
   go_wp2_with fail
   refine HN.out.mono ?_
   rintro e w1 ⟨rfl, h1, hg1⟩
   have H1 := Lib.hid h1
   have HG := Lib.hid hg1
   have c1 := cell_of_row w1 b 0 _ _ (0, 0) h1
   have f1 : w1.frozen? ⟨b, 0, none⟩ = false := by
    have := h1
    unfold CurAt at this
    simp [World.frozen?, this]
   simp at c1
   clear h1 hg1
   go_wp2_with fail
   go_ret2
   exact ⟨rfl, cur_set H1.out, HG.out.trans (set_grown' _ _ _)⟩
  ·have HR : readBlk t = ([], 2, t) := by unfold readBlk; rw [if_pos he, if_neg hl]
   have h0 := hp he
   rw [HR]
   rw [he] at HN
   generalize (readCnt t).2.2 = u at *
   generalize (readCnt t).1 = n at *
   obtain ⟨k, rfl⟩ := Int.eq_ofNat_of_zero_le h0
   have hz := size_arr u
   have q2 : decide ((k : Int) > (u.length : Int)) = true := decide_eq_true (by omega)
   have q3 : decide (u.length < k) = true := decide_eq_true (by omega)
   clear h HR he hp hl h0
   go_enter Tryz.func76, Tryz.ntmps76
   go_wp2_with fail
   refine HN.out.mono ?_
   rintro e w1 ⟨rfl, h1, hg1⟩
   have H1 := Lib.hid h1
   have HG := Lib.hid hg1
   have c1 := cell_of_row w1 b 0 _ _ (0, 0) h1
   have f1 : w1.frozen? ⟨b, 0, none⟩ = false := by
    have := h1
    unfold CurAt at this
    simp [World.frozen?, this]
   simp at c1
   clear h1 hg1
   go_wp2_with fail
   go_ret2
   exact ⟨rfl, cur_set H1.out, HG.out.trans (set_grown' _ _ _)⟩
 ·have HR : readBlk t = ([], (readCnt t).2.1, t) := by unfold readBlk; rw [if_neg he]
  rw [HR]
  generalize (readCnt t).2.2 = u at *
  generalize (readCnt t).2.1 = x at *
  generalize (readCnt t).1 = n at *
  have q1 : (x == 0) = false := by simpa using he
  have q2 : (x != 0) = true := by simpa using he
  clear h HR he hp
  go_enter Tryz.func76, Tryz.ntmps76
  go_wp2_with fail
  refine HN.out.mono ?_
  rintro e w1 ⟨rfl, h1, hg1⟩
  have H1 := Lib.hid h1
  have HG := Lib.hid hg1
  have c1 := cell_of_row w1 b 0 _ _ (0, 0) h1
  have f1 : w1.frozen? ⟨b, 0, none⟩ = false := by
   have := h1
   unfold CurAt at this
   simp [World.frozen?, this]
  simp at c1
  clear h1 hg1
  go_wp2_with fail
  go_ret2
  exact ⟨rfl, cur_set H1.out, HG.out.trans (set_grown' _ _ _)⟩
end Go.Proofs.YtkhemhiifhggmaaGreatDoor
namespace Go.Proofs.YtkhemhiifhggmaaGreatDoor
open Go.RowKit Go.Maps
def headE : List UInt8 → List UInt8 → Int
 | [], _ => 0
 | _ :: _, [] => 2
 | x :: xs, y :: ys => if y = x then headE xs ys else 3
def wantB (k : Nat) : List UInt8 := [103, 108, 115, UInt8.ofNat k]
def openB (k : Nat) (b : List UInt8) : List UInt8 × Int :=
 if headE (wantB k) b = 0 then
  if (readBlk (b.drop 4)).2.1 = 0 then
   if (readBlk (b.drop 4)).2.2.length < 4 then ([], 2) else if 4 < (readBlk (b.drop 4)).2.2.length then ([], 5) else if sealB k (readBlk (b.drop 4)).1 = b then ((readBlk (b.drop 4)).1, 0) else ([], 6)
  else ([], (readBlk (b.drop 4)).2.1)
 else ([], headE (wantB k) b)
theorem headE_short : ∀ (xs b : List UInt8) (i : Nat), i < xs.length → b.take i = xs.take i → b.length ≤ i → headE xs b = 2
 | [], _, _, h, _, _ => by simp at h
 | x :: xs, [], _, _, _, _ => rfl
 | x :: xs, y :: ys, 0, _, _, h => by simp at h
 |
  x :: xs, y :: ys, i + 1, h, e, hl => by
  rw [List.take_succ_cons, List.take_succ_cons] at e
  injection e with e1 e2
  rw [headE, if_pos e1]
  exact headE_short xs ys i (by simpa using h) e2 (by simpa using hl)
theorem headE_bad : ∀ (xs b : List UInt8) (i : Nat) (x y : UInt8), xs[i]? = some x → b[i]? = some y → b.take i = xs.take i → y ≠ x → headE xs b = 3
 | [], _, _, _, _, h, _, _, _ => by simp at h
 | x :: xs, [], _, _, _, _, h, _, _ => by simp at h
 |
  x :: xs, y :: ys, 0, x', y', hx, hy, _, hne => by
  rw [List.getElem?_cons_zero] at hx hy
  injection hx with hx
  injection hy with hy
  rw [headE, if_neg (by rw [hx, hy]; exact hne)]
 |
  x :: xs, y :: ys, i + 1, x', y', hx, hy, e, hne => by
  rw [List.take_succ_cons, List.take_succ_cons] at e
  injection e with e1 e2
  rw [List.getElem?_cons_succ] at hx hy
  rw [headE, if_pos e1]
  exact headE_bad xs ys i x' y' hx hy e2 hne
theorem headE_ok : ∀ (xs b : List UInt8), b.take xs.length = xs → headE xs b = 0
 | [], _, _ => rfl
 | x :: xs, [], h => by simp at h
 |
  x :: xs, y :: ys, h => by
  rw [List.length_cons, List.take_succ_cons] at h
  injection h with e1 e2
  rw [headE, if_pos e1]
  exact headE_ok xs ys e2
set_option linter.unusedVariables false in
theorem open_o (W0 : World) (b : List UInt8) (hb : b.length ≤ 1125899906842624) (k : Nat) (hk : k ≤ 255)
  (c2 c3 c7 c8 c9 c10 c11 c12 c13 c14 c15 c16 c17 c18 c49 c50 c51 c52 c53 c54 c55 c56 c57 c58 c59 c60 c61 c62 c63 c64 c65 c66 c67 c68 c69 c70 c71 c72 c73 c74 c75 c76 c77 c78 u4 u5 u6 u20 u21 u22 u23 u24 u25 u26 u27 u28 u29 u30 u31 u32 u33 u34 u35 u36 u37 u38 u39 u40 u41 u42 u43 u44 u45 u46 u47 u48 : Value) (Q0 : Exit → Act → World → Prop) (hQ0 : ∀ c (a a' : Act) w, a.defers = a'.defers → Q0 (.panic c) a w → Q0 (.panic c) a' w)
  (hret : ∀ (z : Int) (W : World) (x19 u6 u20 u21 u22 u23 u24 u25 u26 u27 u28 u29 u30 u31 u32 u33 u34 u35 u36 u37 u38 u39 u40 u41 u42 u43 u44 u45 u46 u47 u48 : Value), Hid (Below W0.heap.size W0 W) → Hid (z ≠ 0 ∧ headE (wantB k) b = z) → Q0 .ret ⟨List.toArray (.int .i64 (k : Int) :: .string ⟨b.toArray⟩ :: c2 :: c3 :: .string ⟨#[]⟩ :: .int .i64 z :: u6 :: c7 :: c8 :: c9 :: c10 :: c11 :: c12 :: c13 :: c14 :: c15 :: c16 :: c17 :: c18 :: x19 :: u20 :: u21 :: u22 :: u23 :: u24 :: u25 :: u26 :: u27 :: u28 :: u29 :: u30 :: u31 :: u32 :: u33 :: u34 :: u35 :: u36 :: u37 :: u38 :: u39 :: u40 :: u41 :: u42 :: u43 :: u44 :: u45 :: u46 :: u47 :: u48 :: c49 :: c50 :: c51 :: c52 :: c53 :: c54 :: c55 :: c56 :: c57 :: c58 :: c59 :: c60 :: c61 :: c62 :: c63 :: c64 :: c65 :: c66 :: c67 :: c68 :: c69 :: c70 :: c71 :: c72 :: c73 :: c74 :: c75 :: c76 :: c77 :: c78 :: []), []⟩ W)
  (hexit : ∀ (W : World) (x19 u4 u5 u6 u20 u21 u22 u23 u24 u25 u26 u27 u28 u29 u30 u31 u32 u33 u34 u35 u36 u37 u38 u39 u40 u41 u42 u43 u44 u45 u46 u47 u48 : Value), Hid (Below W0.heap.size W0 W) → Hid (4 ≤ b.length ∧ headE (wantB k) b = 0) → Q0 (.exit 0) ⟨List.toArray (.int .i64 (k : Int) :: .string ⟨b.toArray⟩ :: c2 :: c3 :: u4 :: u5 :: u6 :: c7 :: c8 :: c9 :: c10 :: c11 :: c12 :: c13 :: c14 :: c15 :: c16 :: c17 :: c18 :: x19 :: u20 :: u21 :: u22 :: u23 :: u24 :: u25 :: u26 :: u27 :: u28 :: u29 :: u30 :: u31 :: u32 :: u33 :: u34 :: u35 :: u36 :: u37 :: u38 :: u39 :: u40 :: u41 :: u42 :: u43 :: u44 :: u45 :: u46 :: u47 :: u48 :: c49 :: c50 :: c51 :: c52 :: c53 :: c54 :: c55 :: c56 :: c57 :: c58 :: c59 :: c60 :: c61 :: c62 :: c63 :: c64 :: c65 :: c66 :: c67 :: c68 :: c69 :: c70 :: c71 :: c72 :: c73 :: c74 :: c75 :: c76 :: c77 :: c78 :: []), []⟩ W) :
  Code.wp Tryz.prog (.loop (loopOf Tryz.f40 0)) Q0 ⟨List.toArray (.int .i64 (k : Int) :: .string ⟨b.toArray⟩ :: c2 :: c3 :: u4 :: u5 :: u6 :: c7 :: c8 :: c9 :: c10 :: c11 :: c12 :: c13 :: c14 :: c15 :: c16 :: c17 :: c18 :: .int .i64 (0 : Int) :: u20 :: u21 :: u22 :: u23 :: u24 :: u25 :: u26 :: u27 :: u28 :: u29 :: u30 :: u31 :: u32 :: u33 :: u34 :: u35 :: u36 :: u37 :: u38 :: u39 :: u40 :: u41 :: u42 :: u43 :: u44 :: u45 :: u46 :: u47 :: u48 :: c49 :: c50 :: c51 :: c52 :: c53 :: c54 :: c55 :: c56 :: c57 :: c58 :: c59 :: c60 :: c61 :: c62 :: c63 :: c64 :: c65 :: c66 :: c67 :: c68 :: c69 :: c70 :: c71 :: c72 :: c73 :: c74 :: c75 :: c76 :: c77 :: c78 :: []), []⟩ W0 := by
 have hz := size_arr b
 have hw8 : (UInt8.ofNat k).toNat = k := by simp; omega
 conv => arg 2; arg 1; whnf
 go_loopw [19] (fun iv wr => ∃ i : Nat, i ≤ 4 ∧ iv = .int .i64 (i : Int) ∧ Hid (Below W0.heap.size W0 wr) ∧ Hid (i ≤ b.length ∧ b.take i = (wantB k).take i)) (fun iv _ => 4 - (intOf iv).toNat)
 case atStart => exact ⟨0, Nat.zero_le _, rfl, Lib.hid (brefl W0), Lib.hid ⟨Nat.zero_le _, rfl⟩⟩
 case round =>
  obtain ⟨i, hi, rfl, HB, HI⟩ := hrel
  by_cases hi4 : i < 4
  ·by_cases hlt : i < b.length
   ·obtain ⟨y, hy⟩ : ∃ y, b[i]? = some y := ⟨b[i]'hlt, List.getElem?_eq_getElem _⟩
    have hbz : ∀ h, ((⟨b.toArray⟩ : ByteArray)[i]'h) = y := fun h => by
     have h1 := (List.getElem?_eq_some_iff.1 hy).2
     show (b.toArray[i]) = _
     rw [List.getElem_toArray, h1]
    have HY := Lib.hid hy
    have q0 : decide ((i : Int) < 4) = true := decide_eq_true (by omega)
    have q1 : decide ((i : Int) ≥ (b.length : Int)) = false := decide_eq_false (by omega)
    clear hy
    obtain ⟨Y, hY⟩ : ∃ Y : Int, (y.toNat : Int) = Y := ⟨_, rfl⟩
    have hwy : wrap64 Y = Y := by
     have := y.toNat_lt
     unfold wrap64
     omega
    by_cases hi3 : i < 3
    ·have p3 : decide ((i : Int) < 3) = true := decide_eq_true (by omega)
     have p4 : ((i : Int) == 3) = false := by simp; omega
     obtain ⟨m, hm⟩ : ∃ m, ([103, 108, 115] : List UInt8)[i]? = some m := ⟨([103, 108, 115] : List UInt8)[i]'hi3, List.getElem?_eq_getElem _⟩
     have hmw : (wantB k)[i]? = some m := by
      show ([103, 108, 115] ++ [UInt8.ofNat k] : List UInt8)[i]? = _
      rw [List.getElem?_append_left hi3]
      exact hm
     have hmz : ∀ h, ((⟨#[103, 108, 115]⟩ : ByteArray)[i]'h) = m := fun h => by
      have h1 := (List.getElem?_eq_some_iff.1 hm).2
      exact h1
     have hms : (⟨#[103, 108, 115]⟩ : ByteArray).size = 3 := rfl
     have HMW := Lib.hid hmw
     obtain ⟨M, hM⟩ : ∃ M : Int, (m.toNat : Int) = M := ⟨_, rfl⟩
     clear hm hmw
     by_cases hyx : Y = M
     ·have p5 : (Y != M) = false := by simpa using hyx
      go_wp2_with fail
      go_quiet (fail)
      go_wp2_with fail
      go_roundw
      case rel => exact ⟨i + 1, by omega, by go_num, Lib.hid (below_drewN HB.out _), Lib.hid ⟨by omega, by
       rw [List.take_add_one, List.take_add_one, HI.out.2, HY.out, HMW.out]
       have e : y = m := UInt8.toNat_inj.1 (by omega)
       rw [e]⟩⟩
      case measure => simp [intOf]; omega
     ·have p5 : (Y != M) = true := by simpa using hyx
      have HE : Hid ((3 : Int) ≠ 0 ∧ headE (wantB k) b = 3) := ⟨by decide, headE_bad _ _ i m y HMW.out HY.out HI.out.2 (fun e => hyx (by rw [← hY, ← hM, e]))⟩
      go_wp2_with fail
      go_quiet (fail)
      go_wp2_with fail
      exact hret 3 _ _ _ _ _ _ _ _ _ _ _ _ _ _ _ _ _ _ _ _ _ _ _ _ _ _ _ _ _ _ _ _ (Lib.hid (below_drewN HB.out _)) HE
    ·have hmw : (wantB k)[i]? = some (UInt8.ofNat k) := by rw [show i = 3 by omega]; rfl
     have p3 : decide ((i : Int) < 3) = false := decide_eq_false (by omega)
     have p4 : ((i : Int) == 3) = true := by simp; omega
     have HMW := Lib.hid hmw
     clear hmw
     by_cases hyx : Y = (k : Int)
     ·have p5 : (Y != (k : Int)) = false := by simpa using hyx
      go_wp2_with fail
      go_quiet (fail)
      go_wp2_with fail
      go_roundw
      case rel => exact ⟨i + 1, by omega, by go_num, Lib.hid (below_drewN HB.out _), Lib.hid ⟨by omega, by
       rw [List.take_add_one, List.take_add_one, HI.out.2, HY.out, HMW.out]
       have e : y = UInt8.ofNat k := UInt8.toNat_inj.1 (by omega)
       rw [e]⟩⟩
      case measure => simp [intOf]; omega
     ·have p5 : (Y != (k : Int)) = true := by simpa using hyx
      have HE : Hid ((3 : Int) ≠ 0 ∧ headE (wantB k) b = 3) := ⟨by decide, headE_bad _ _ i _ y HMW.out HY.out HI.out.2 (fun e => hyx (by rw [← hY, e, hw8]))⟩
      go_wp2_with fail
      go_quiet (fail)
      go_wp2_with fail
      exact hret 3 _ _ _ _ _ _ _ _ _ _ _ _ _ _ _ _ _ _ _ _ _ _ _ _ _ _ _ _ _ _ _ _ (Lib.hid (below_drewN HB.out _)) HE
   ·have q0 : decide ((i : Int) < 4) = true := decide_eq_true (by omega)
    have q1 : decide ((i : Int) ≥ (b.length : Int)) = true := decide_eq_true (by omega)
    have q2 : decide (b.length ≤ i) = true := decide_eq_true (by omega)
    have HE : Hid ((2 : Int) ≠ 0 ∧ headE (wantB k) b = 2) := ⟨by decide, headE_short _ _ i hi4 HI.out.2 (by omega)⟩
    go_wp2_with fail
    exact hret 2 _ _ _ _ _ _ _ _ _ _ _ _ _ _ _ _ _ _ _ _ _ _ _ _ _ _ _ _ _ _ _ _ HB HE
  ·obtain rfl : i = 4 := by omega
   go_wp2_with fail
   refine hexit wr _ _ _ _ _ _ _ _ _ _ _ _ _ _ _ _ _ _ _ _ _ _ _ _ _ _ _ _ _ _ _ _ _ HB (Lib.hid ⟨HI.out.1, headE_ok _ _ ?_⟩)
   exact HI.out.2
theorem readCnt_short (t : List UInt8) : (readCnt t).2.2.length ≤ t.length := by
 unfold readCnt
 split
 ·exact Nat.le_refl _
 ·unfold readNum
  split
  ·rw [List.length_drop]; omega
  ·exact Nat.le_refl _
theorem readBlk_short (t : List UInt8) : (readBlk t).1.length ≤ t.length ∨ (readBlk t).2.1 ≠ 0 := by
 have h := readCnt_short t
 unfold readBlk
 split
 ·split
  ·left
   rw [List.length_take]
   omega
  ·exact .inr (by show (2 : Int) ≠ 0; decide)
 ·right
  assumption
set_option linter.unusedVariables false in
theorem open_any (w : World) (b : List UInt8) (hb : b.length ≤ 1125899906842624) (k : Nat) (hk : k ≤ 255) :
  Calls Tryz.prog 40 #[.int .i64 k, .string ⟨b.toArray⟩] w fun e w' => e = .returned (.tuple #[.string ⟨(openB k b).1.toArray⟩, .int .i64 (openB k b).2]) ∧ Below w.heap.size w w' := by
 have hk0 : decide ((k : Int) < 0) = false := decide_eq_false (by omega)
 have hk1 : decide ((k : Int) > 255) = false := decide_eq_false (by omega)
 go_enter Tryz.func40, Tryz.ntmps40
 go_wp2_with fail
 refine open_o _ b hb k hk _ _ _ _ _ _ _ _ _ _ _ _ _ _ _ _ _ _ _ _ _ _ _ _ _ _ _ _ _ _ _ _ _ _ _ _ _ _ _ _ _ _ _ _ _ _ _ _ _ _ _ _ _ _ _ _ _ _ _ _ _ _ _ _ _ _ _ _ _ _ _ _ _ _ _ _ _ (fun c a a' w hd h => by cases a; cases a'; cases hd; exact h) ?_ ?_
 ·intro z W x19 u6 u20 u21 u22 u23 u24 u25 u26 u27 u28 u29 u30 u31 u32 u33 u34 u35 u36 u37 u38 u39 u40 u41 u42 u43 u44 u45 u46 u47 u48 HB HE
  have HO : Hid (openB k b = ([], z)) := by
   show _ = _
   unfold openB
   rw [if_neg (by rw [HE.out.2]; exact HE.out.1), HE.out.2]
  go_wp2_with fail
  go_ret2
  exact ⟨by rw [HO.out]; rfl, HB.out⟩
 ·intro W x19 u4 u5 u6 u20 u21 u22 u23 u24 u25 u26 u27 u28 u29 u30 u31 u32 u33 u34 u35 u36 u37 u38 u39 u40 u41 u42 u43 u44 u45 u46 u47 u48 HB HE
  obtain ⟨hb4, he⟩ := HE.out
  have hz := size_arr b
  have e4 : (⟨b.toArray⟩ : ByteArray).extract 4 b.length = ⟨(b.drop 4).toArray⟩ := by
   apply ByteArray.ext
   apply Array.ext'
   simp [ByteArray.data_extract, List.take_of_length_le]
  have hdl : (b.drop 4).length = b.length - 4 := List.length_drop ..
  have HS := Lib.hid (readBlk_short (b.drop 4))
  have HO : Hid (openB k b = if (readBlk (b.drop 4)).2.1 = 0 then
   if (readBlk (b.drop 4)).2.2.length < 4 then ([], 2) else if 4 < (readBlk (b.drop 4)).2.2.length then ([], 5) else if sealB k (readBlk (b.drop 4)).1 = b then ((readBlk (b.drop 4)).1, 0) else ([], 6)
  else ([], (readBlk (b.drop 4)).2.1)) := by
   show _ = _
   unfold openB
   rw [if_pos he]
  have HBL := Lib.hid (fun W p h => blk_any W p (b.drop 4) h (by omega))
  clear he HE
  generalize b.drop 4 = u at *
  go_wp2_with fail
  refine (at_any _ u).mono ?_
  rintro e w1 ⟨rfl, h1, hb1⟩
  have HB1 := Lib.hid (bcall HB.out hb1)
  go_wp2_with fail
  refine (HBL.out _ _ h1).mono ?_
  rintro e w2 ⟨rfl, h2, hg2⟩
  have HB2 : Hid (Below w.heap.size w w2) := ⟨hg2.os.trans HB1.out.os, hg2.tape.trans HB1.out.tape, hg2.output.trans HB1.out.output, Nat.le_trans HB1.out.size hg2.size, fun j hj => (hg2.block j (Nat.lt_of_lt_of_le hj HB1.out.size) (by intro e; injection e with e; have := HB.out.size; omega)).trans (HB1.out.block j hj)⟩
  have H2 := Lib.hid h2
  generalize hs : (readBlk u).1 = s at *
  generalize hx : (readBlk u).2.1 = x at *
  generalize hr : (readBlk u).2.2 = r at *
  clear h1 h2 hg2 hb1 HBL hs hx hr
  by_cases hx0 : x = 0
  ·have q0 : (x != 0) = false := by simpa using hx0
   have hsl : s.length ≤ u.length := HS.out.resolve_right (fun h => h hx0)
   have HX := Lib.hid hx0
   clear hx0
   go_wp2_with fail
   refine (rest_any _ _ r H2.out).mono ?_
   rintro e _ ⟨rfl, rfl⟩
   have hz := size_arr r
   by_cases h4 : r.length < 4
   ·have q1 : decide ((r.length : Int) < 4) = true := decide_eq_true (by omega)
    go_wp2_with fail
    go_ret2
    exact ⟨by rw [HO.out, if_pos HX.out, if_pos h4]; rfl, HB2.out⟩
   ·have q1 : decide ((r.length : Int) < 4) = false := decide_eq_false (by omega)
    by_cases h5 : 4 < r.length
    ·have q2 : decide ((r.length : Int) > 4) = true := decide_eq_true (by omega)
     go_wp2_with fail
     go_ret2
     exact ⟨by rw [HO.out, if_pos HX.out, if_neg h4, if_pos h5]; rfl, HB2.out⟩
    ·have q2 : decide ((r.length : Int) > 4) = false := decide_eq_false (by omega)
     go_wp2_with fail
     refine (seal_any _ k hk s (by omega)).mono ?_
     rintro e w3 ⟨rfl, hb3⟩
     have HB3 := Lib.hid (bcall HB2.out hb3)
     clear hb3
     by_cases hsb : sealB k s = b
     ·have hne : ((⟨(sealB k s).toArray⟩ : ByteArray).toList == (⟨b.toArray⟩ : ByteArray).toList) = true := by rw [hsb]; simp
      have HSB := Lib.hid hsb
      clear hsb
      generalize (⟨(sealB k s).toArray⟩ : ByteArray) = S1 at *
      generalize (⟨b.toArray⟩ : ByteArray) = S2 at *
      go_wp2_with fail
      go_ret2
      exact ⟨by rw [HO.out, if_pos HX.out, if_neg h4, if_neg h5, if_pos HSB.out]; rfl, HB3.out⟩
     ·have hne : ((⟨(sealB k s).toArray⟩ : ByteArray).toList == (⟨b.toArray⟩ : ByteArray).toList) = false := by
       rw [beq_eq_false_iff_ne]
       intro h
       rw [ByteArray.toList_eq, ByteArray.toList_eq] at h
       exact hsb (by simpa using h)
      generalize (⟨(sealB k s).toArray⟩ : ByteArray) = S1 at *
      generalize (⟨b.toArray⟩ : ByteArray) = S2 at *
      go_wp2_with fail
      go_ret2
      exact ⟨by rw [HO.out, if_pos HX.out, if_neg h4, if_neg h5, if_neg hsb]; rfl, HB3.out⟩
  ·have q0 : (x != 0) = true := by simpa using hx0
   go_wp2_with fail
   go_ret2
   exact ⟨by rw [HO.out, if_neg hx0]; rfl, HB2.out⟩
end Go.Proofs.YtkhemhiifhggmaaGreatDoor
namespace Go.Proofs.YtkhemhiifhggmaaGreatDoor
open Go.RowKit Go.Maps
set_option linter.unusedVariables false
structure Sg where
 id : Int
 docs : Int
 gen : Int
 gone : Int
deriving DecidableEq
def Sg.cells (s : Sg) : List Value := [.int .i64 s.id, .int .i64 s.docs, .int .i64 s.gen, .int .i64 s.gone]
def Sg.ok (next last : Int) (s : Sg) : Prop := last < s.id ∧ s.id < next ∧ 1 ≤ s.docs ∧ s.docs ≤ 1048576 ∧ 0 ≤ s.gen ∧ s.gen < next ∧ 0 ≤ s.gone ∧ s.gone ≤ s.docs ∧ (s.gen = 0 ↔ s.gone = 0)
instance (next last : Int) (s : Sg) : Decidable (s.ok next last) := by unfold Sg.ok; infer_instance
def segsOk (next : Int) : Int → List Sg → Prop
 | _, [] => True
 | last, s :: r => s.ok next last ∧ segsOk next s.id r
def segsDec (next : Int) : ∀ (x : Int) (l : List Sg), Decidable (segsOk next x l)
 | _, [] => isTrue trivial
 | last, s :: r => @instDecidableAnd _ _ _ (segsDec next s.id r)
instance (next last : Int) (l : List Sg) : Decidable (segsOk next last l) := segsDec next last l
def PtOk (next : Int) (l : List Sg) : Prop := 1 ≤ next ∧ next ≤ 999999999 ∧ segsOk next 0 l
instance (next : Int) (l : List Sg) : Decidable (PtOk next l) := by unfold PtOk; infer_instance
def checkP (next : Int) (l : List Sg) : Int := if PtOk next l then 0 else 1
def SegsIn (w : World) (B : Nat) (A : Option Addr) (n : Nat) (l : List Sg) : Prop := Sl w B 4 A n (l.flatMap Sg.cells) ∧ l.length = n
theorem SegsIn.at_ {w : World} {B : Nat} {A : Option Addr} {n : Nat} {l : List Sg} (h : SegsIn w B A n l) {k : Nat} {s : Sg} (hk : l[k]? = some s) : ∃ b off, A = some ⟨b, off, none⟩ ∧ b < B ∧ w.cell? ⟨b, off + k * 4, none⟩ = some (.int .i64 s.id) ∧ w.cell? ⟨b, off + k * 4 + 1, none⟩ = some (.int .i64 s.docs) ∧ w.cell? ⟨b, off + k * 4 + 2, none⟩ = some (.int .i64 s.gen) ∧ w.cell? ⟨b, off + k * 4 + 3, none⟩ = some (.int .i64 s.gone) := by
 have hlt := (List.getElem?_eq_some_iff.1 hk).1
 obtain ⟨b, off, hA, hb, hc⟩ := h.1.at_ (by rw [← h.2]; exact hlt)
 have hf : ∀ j u, s.cells[j]? = some u → (l.flatMap Sg.cells)[k * 4 + j]? = some u := fun j u hj => by
  have hj4 : j < 4 := by
   have := (List.getElem?_eq_some_iff.1 hj).1
   exact this
  rw [flat_at Sg.cells 4 (fun _ => rfl) l k j s hk hj4]
  exact hj
 exact ⟨b, off, hA, hb, hc _ _ (hf 0 _ rfl), by have := hc _ _ (hf 1 _ rfl); rwa [← Nat.add_assoc] at this, by have := hc _ _ (hf 2 _ rfl); rwa [← Nat.add_assoc] at this, by have := hc _ _ (hf 3 _ rfl); rwa [← Nat.add_assoc] at this⟩
theorem SegsIn.keep {w w' : World} {B : Nat} {A : Option Addr} {n : Nat} {l : List Sg} (h : SegsIn w B A n l) (hb : Below B w w') : SegsIn w' B A n l := ⟨h.1.below hb, h.2⟩
def lastOf : Int → List Sg → Int
 | last, [] => last
 | _, s :: r => lastOf s.id r
theorem bel_new {b : Nat} {w W : World} (h : Below b w W) (_ : w.heap.size ≤ W.heap.size) (hb : b ≤ w.heap.size) (o : Obj) : Below b w (W.alloc o) := h.trans ((bnew (brefl W) o).mono (Nat.le_trans hb h.size))
theorem lastOf_snoc (l : List Sg) (s : Sg) : ∀ x, lastOf x (l ++ [s]) = s.id := by
 induction l with
 | nil => intro x; rfl
 | cons a r ih => intro x; exact ih _
theorem segsOk_append (next : Int) (l r : List Sg) : ∀ x, segsOk next x (l ++ r) ↔ segsOk next x l ∧ segsOk next (lastOf x l) r := by
 induction l with
 | nil => intro x; simp [segsOk, lastOf]
 | cons a m ih => intro x; simp only [List.cons_append, segsOk, lastOf, ih, and_assoc]
set_option linter.unusedVariables false in
theorem check_o (w W0 : World) (B : Nat) (hB : B ≤ w.heap.size) (A : Option Addr) (n c : Nat) (l : List Sg) (HS : Hid (SegsIn w B A n l)) (hn : n ≤ 4398046511104) (next last : Int) (hl : last = 0) (pb : Nat) (hpb : w.heap.size = pb)
  (HP : Hid (∀ W, Below (w.heap.size + 1) W0 W → W.cell? ⟨pb, 0, none⟩ = some (.int .i64 next))) (HW : Hid (Below w.heap.size w W0 ∧ w.heap.size + 1 ≤ W0.heap.size))
  (c0 c4 c6 c7 c8 c9 c10 c11 c12 c13 c14 u2 u5 u18 u19 u20 u21 u22 u23 u24 u25 u26 u27 u28 u29 u30 u31 u32 u33 u34 u35 u36 u37 u38 u39 u40 u41 u42 u43 u44 u45 u46 u47 u48 u49 u50 u51 u52 u53 u54 u55 u56 u57 u58 u59 u60 u61 u62 u63 u64 u65 u66 u67 u68 u69 u70 u71 u72 u73 u74 u75 u76 u77 : Value) (Q0 : Exit → Act → World → Prop) (hQ0 : ∀ c (a a' : Act) w, a.defers = a'.defers → Q0 (.panic c) a w → Q0 (.panic c) a' w)
  (hret : ∀ (W : World) (x3 x17 u5 u18 u19 u20 u21 u22 u23 u24 u25 u26 u27 u28 u29 u30 u31 u32 u33 u34 u35 u36 u37 u38 u39 u40 u41 u42 u43 u44 u45 u46 u47 u48 u49 u50 u51 u52 u53 u54 u55 u56 u57 u58 u59 u60 u61 u62 u63 u64 u65 u66 u67 u68 u69 u70 u71 u72 u73 u74 u75 u76 u77 : Value), Hid (Below w.heap.size w W) → Hid (¬ segsOk next 0 l) → Q0 .ret ⟨List.toArray (c0 :: .pointer (some ⟨pb, 0, none⟩) :: .int .i64 1 :: x3 :: c4 :: u5 :: c6 :: c7 :: c8 :: c9 :: c10 :: c11 :: c12 :: c13 :: c14 :: .slice A n c :: .int .i64 (n : Int) :: x17 :: u18 :: u19 :: u20 :: u21 :: u22 :: u23 :: u24 :: u25 :: u26 :: u27 :: u28 :: u29 :: u30 :: u31 :: u32 :: u33 :: u34 :: u35 :: u36 :: u37 :: u38 :: u39 :: u40 :: u41 :: u42 :: u43 :: u44 :: u45 :: u46 :: u47 :: u48 :: u49 :: u50 :: u51 :: u52 :: u53 :: u54 :: u55 :: u56 :: u57 :: u58 :: u59 :: u60 :: u61 :: u62 :: u63 :: u64 :: u65 :: u66 :: u67 :: u68 :: u69 :: u70 :: u71 :: u72 :: u73 :: u74 :: u75 :: u76 :: u77 :: []), []⟩ W)
  (hexit : ∀ (W : World) (x3 x17 u2 u5 u18 u19 u20 u21 u22 u23 u24 u25 u26 u27 u28 u29 u30 u31 u32 u33 u34 u35 u36 u37 u38 u39 u40 u41 u42 u43 u44 u45 u46 u47 u48 u49 u50 u51 u52 u53 u54 u55 u56 u57 u58 u59 u60 u61 u62 u63 u64 u65 u66 u67 u68 u69 u70 u71 u72 u73 u74 u75 u76 u77 : Value), Hid (Below w.heap.size w W) → Hid (segsOk next 0 l) → Q0 (.exit 0) ⟨List.toArray (c0 :: .pointer (some ⟨pb, 0, none⟩) :: u2 :: x3 :: c4 :: u5 :: c6 :: c7 :: c8 :: c9 :: c10 :: c11 :: c12 :: c13 :: c14 :: .slice A n c :: .int .i64 (n : Int) :: x17 :: u18 :: u19 :: u20 :: u21 :: u22 :: u23 :: u24 :: u25 :: u26 :: u27 :: u28 :: u29 :: u30 :: u31 :: u32 :: u33 :: u34 :: u35 :: u36 :: u37 :: u38 :: u39 :: u40 :: u41 :: u42 :: u43 :: u44 :: u45 :: u46 :: u47 :: u48 :: u49 :: u50 :: u51 :: u52 :: u53 :: u54 :: u55 :: u56 :: u57 :: u58 :: u59 :: u60 :: u61 :: u62 :: u63 :: u64 :: u65 :: u66 :: u67 :: u68 :: u69 :: u70 :: u71 :: u72 :: u73 :: u74 :: u75 :: u76 :: u77 :: []), []⟩ W) :
  Code.wp Tryz.prog (.loop (loopOf Tryz.f10 0)) Q0 ⟨List.toArray (c0 :: .pointer (some ⟨pb, 0, none⟩) :: u2 :: .int .i64 last :: c4 :: u5 :: c6 :: c7 :: c8 :: c9 :: c10 :: c11 :: c12 :: c13 :: c14 :: .slice A n c :: .int .i64 (n : Int) :: .int .i64 (0 : Int) :: u18 :: u19 :: u20 :: u21 :: u22 :: u23 :: u24 :: u25 :: u26 :: u27 :: u28 :: u29 :: u30 :: u31 :: u32 :: u33 :: u34 :: u35 :: u36 :: u37 :: u38 :: u39 :: u40 :: u41 :: u42 :: u43 :: u44 :: u45 :: u46 :: u47 :: u48 :: u49 :: u50 :: u51 :: u52 :: u53 :: u54 :: u55 :: u56 :: u57 :: u58 :: u59 :: u60 :: u61 :: u62 :: u63 :: u64 :: u65 :: u66 :: u67 :: u68 :: u69 :: u70 :: u71 :: u72 :: u73 :: u74 :: u75 :: u76 :: u77 :: []), []⟩ W0 := by
 have hlen := HS.out.2
 conv => arg 2; arg 1; whnf
 go_loopw [3, 17] (fun lv iv wr => ∃ i : Nat, i ≤ n ∧ lv = .int .i64 (lastOf 0 (l.take i)) ∧ iv = .int .i64 (i : Int) ∧ Hid (Below (w.heap.size + 1) W0 wr) ∧ Hid (segsOk next 0 (l.take i))) (fun _ iv _ => n - (intOf iv).toNat)
 case atStart => exact ⟨0, Nat.zero_le _, by rw [hl]; rfl, rfl, Lib.hid ((brefl W0).mono HW.out.2), Lib.hid trivial⟩
 case round =>
  obtain ⟨i, hi, rfl, rfl, HB, HI⟩ := hrel
  have hbs := HB.out.size
  have hws := HW.out.2
  have HBW : Hid (Below w.heap.size w wr) := HW.out.1.trans (HB.out.mono (by omega))
  by_cases hin : i < n
  ·obtain ⟨s, hs⟩ : ∃ s, l[i]? = some s := ⟨l[i]'(by omega), List.getElem?_eq_getElem _⟩
   have HSW := Lib.hid (HS.out.keep (HBW.out.mono hB))
   obtain ⟨b, off, rfl, hb, c0, c1, c2, c3⟩ := HSW.out.at_ hs
   have hbw : b < wr.heap.size := by have := HBW.out.size; omega
   have HSS := Lib.hid hs
   have q0 : decide ((i : Int) < (n : Int)) = true := decide_eq_true (by omega)
   have hpw := HP.out wr HB.out
   have hpw2 : pb < wr.heap.size := by omega
   have HTK : Hid (l.take (i + 1) = l.take i ++ [s]) := by show _ = _; rw [List.take_add_one, hs]; rfl
   have HSPL : Hid (l = l.take (i + 1) ++ l.drop (i + 1)) := (List.take_append_drop ..).symm
   obtain ⟨LO, hLO⟩ : ∃ LO, lastOf 0 (l.take i) = LO := ⟨_, rfl⟩
   have HLO := Lib.hid hLO
   rw [hLO]
   obtain ⟨id, docs, gen, gone⟩ := s
   simp only at c0 c1 c2 c3
   clear hs hLO
   have hba := bnew (brefl wr) (.cells #[.int .i64 id, .int .i64 docs, .int .i64 gen, .int .i64 gone] 61)
   have hnw := heap_alloc_new wr (.cells #[.int .i64 id, .int .i64 docs, .int .i64 gen, .int .i64 gone] 61)
   have HBA2 := Lib.hid (HBW.out.trans (hba.mono HBW.out.size))
   clear hba hnw
   have hcase : Sg.ok next LO ⟨id, docs, gen, gone⟩ ∨ ¬ Sg.ok next LO ⟨id, docs, gen, gone⟩ := Decidable.em _
   have HBAD : Hid (¬ Sg.ok next LO ⟨id, docs, gen, gone⟩ → ¬ segsOk next 0 l) := fun hno hall => hno (by
    rw [HSPL.out, HTK.out, List.append_assoc, segsOk_append] at hall
    have h2 := hall.2
    rw [HLO.out] at h2
    exact h2.1)
   by_cases h0 : id ≤ LO
   ·have p0 : decide (id ≤ LO) = true := decide_eq_true h0
    have HNO := HBAD.out (fun h => by unfold Sg.ok at h; simp only at h; omega)
    have HNO := Lib.hid HNO
    clear h0
    go_wp2_with fail
    exact hret _ _ _ _ _ _ _ _ _ _ _ _ _ _ _ _ _ _ _ _ _ _ _ _ _ _ _ _ _ _ _ _ _ _ _ _ _ _ _ _ _ _ _ _ _ _ _ _ _ _ _ _ _ _ _ _ _ _ _ _ _ _ _ _ HBA2 HNO
   have p0 : decide (id ≤ LO) = false := decide_eq_false h0
   by_cases h1 : id ≥ next
   ·have p1 : decide (id ≥ next) = true := decide_eq_true h1
    have HNO := HBAD.out (fun h => by unfold Sg.ok at h; simp only at h; omega)
    have HNO := Lib.hid HNO
    clear h1
    go_wp2_with fail
    exact hret _ _ _ _ _ _ _ _ _ _ _ _ _ _ _ _ _ _ _ _ _ _ _ _ _ _ _ _ _ _ _ _ _ _ _ _ _ _ _ _ _ _ _ _ _ _ _ _ _ _ _ _ _ _ _ _ _ _ _ _ _ _ _ _ HBA2 HNO
   have p1 : decide (id ≥ next) = false := decide_eq_false h1
   by_cases h2 : docs < 1
   ·have p2 : decide (docs < 1) = true := decide_eq_true h2
    have HNO := HBAD.out (fun h => by unfold Sg.ok at h; simp only at h; omega)
    have HNO := Lib.hid HNO
    clear h2
    go_wp2_with fail
    exact hret _ _ _ _ _ _ _ _ _ _ _ _ _ _ _ _ _ _ _ _ _ _ _ _ _ _ _ _ _ _ _ _ _ _ _ _ _ _ _ _ _ _ _ _ _ _ _ _ _ _ _ _ _ _ _ _ _ _ _ _ _ _ _ _ HBA2 HNO
   have p2 : decide (docs < 1) = false := decide_eq_false h2
   by_cases h3 : docs > 1048576
   ·have p3 : decide (docs > 1048576) = true := decide_eq_true h3
    have HNO := HBAD.out (fun h => by unfold Sg.ok at h; simp only at h; omega)
    have HNO := Lib.hid HNO
    clear h3
    go_wp2_with fail
    exact hret _ _ _ _ _ _ _ _ _ _ _ _ _ _ _ _ _ _ _ _ _ _ _ _ _ _ _ _ _ _ _ _ _ _ _ _ _ _ _ _ _ _ _ _ _ _ _ _ _ _ _ _ _ _ _ _ _ _ _ _ _ _ _ _ HBA2 HNO
   have p3 : decide (docs > 1048576) = false := decide_eq_false h3
   by_cases h4 : gen < 0
   ·have p4 : decide (gen < 0) = true := decide_eq_true h4
    have HNO := HBAD.out (fun h => by unfold Sg.ok at h; simp only at h; omega)
    have HNO := Lib.hid HNO
    clear h4
    go_wp2_with fail
    exact hret _ _ _ _ _ _ _ _ _ _ _ _ _ _ _ _ _ _ _ _ _ _ _ _ _ _ _ _ _ _ _ _ _ _ _ _ _ _ _ _ _ _ _ _ _ _ _ _ _ _ _ _ _ _ _ _ _ _ _ _ _ _ _ _ HBA2 HNO
   have p4 : decide (gen < 0) = false := decide_eq_false h4
   by_cases h5 : gen ≥ next
   ·have p5 : decide (gen ≥ next) = true := decide_eq_true h5
    have HNO := HBAD.out (fun h => by unfold Sg.ok at h; simp only at h; omega)
    have HNO := Lib.hid HNO
    clear h5
    go_wp2_with fail
    exact hret _ _ _ _ _ _ _ _ _ _ _ _ _ _ _ _ _ _ _ _ _ _ _ _ _ _ _ _ _ _ _ _ _ _ _ _ _ _ _ _ _ _ _ _ _ _ _ _ _ _ _ _ _ _ _ _ _ _ _ _ _ _ _ _ HBA2 HNO
   have p5 : decide (gen ≥ next) = false := decide_eq_false h5
   by_cases h6 : gone < 0
   ·have p6 : decide (gone < 0) = true := decide_eq_true h6
    have HNO := HBAD.out (fun h => by unfold Sg.ok at h; simp only at h; omega)
    have HNO := Lib.hid HNO
    clear h6
    go_wp2_with fail
    exact hret _ _ _ _ _ _ _ _ _ _ _ _ _ _ _ _ _ _ _ _ _ _ _ _ _ _ _ _ _ _ _ _ _ _ _ _ _ _ _ _ _ _ _ _ _ _ _ _ _ _ _ _ _ _ _ _ _ _ _ _ _ _ _ _ HBA2 HNO
   have p6 : decide (gone < 0) = false := decide_eq_false h6
   by_cases h7 : gone > docs
   ·have p7 : decide (gone > docs) = true := decide_eq_true h7
    have HNO := HBAD.out (fun h => by unfold Sg.ok at h; simp only at h; omega)
    have HNO := Lib.hid HNO
    clear h7
    go_wp2_with fail
    exact hret _ _ _ _ _ _ _ _ _ _ _ _ _ _ _ _ _ _ _ _ _ _ _ _ _ _ _ _ _ _ _ _ _ _ _ _ _ _ _ _ _ _ _ _ _ _ _ _ _ _ _ _ _ _ _ _ _ _ _ _ _ _ _ _ HBA2 HNO
   have p7 : decide (gone > docs) = false := decide_eq_false h7
   by_cases g0 : gen = 0 <;> by_cases o0 : gone = 0
   ·have p8 : (gen == 0) = true := by simpa using g0
    have p9 : (gone == 0) = true := by simpa using o0
    have HOK : Hid (segsOk next 0 (l.take (i + 1))) := by
     show segsOk _ _ _
     rw [HTK.out, segsOk_append, HLO.out]
     refine ⟨HI.out, ?_, trivial⟩
     unfold Sg.ok
     simp only
     omega
    have HLN : Hid (lastOf 0 (l.take (i + 1)) = id) := by show _ = _; rw [HTK.out, lastOf_snoc]
    have HBN : Hid (Below (w.heap.size + 1) W0 (wr.alloc (.cells #[.int .i64 id, .int .i64 docs, .int .i64 gen, .int .i64 gone] 61))) := bel_new HB.out hbs hws _
    clear g0 o0
    go_wp2_with fail
    go_roundw
    case rel => exact ⟨i + 1, by omega, by rw [HLN.out], by go_num, HBN, HOK⟩
    case measure => simp [intOf]; omega
   ·have p8 : (gen == 0) = true := by simpa using g0
    have p9 : (gone == 0) = false := by simpa using o0
    have HNO := HBAD.out (fun h => by unfold Sg.ok at h; simp only at h; omega)
    have HNO := Lib.hid HNO
    clear g0 o0
    go_wp2_with fail
    exact hret _ _ _ _ _ _ _ _ _ _ _ _ _ _ _ _ _ _ _ _ _ _ _ _ _ _ _ _ _ _ _ _ _ _ _ _ _ _ _ _ _ _ _ _ _ _ _ _ _ _ _ _ _ _ _ _ _ _ _ _ _ _ _ _ HBA2 HNO
   ·have p8 : (gen == 0) = false := by simpa using g0
    have p9 : (gone == 0) = true := by simpa using o0
    have HNO := HBAD.out (fun h => by unfold Sg.ok at h; simp only at h; omega)
    have HNO := Lib.hid HNO
    clear g0 o0
    go_wp2_with fail
    exact hret _ _ _ _ _ _ _ _ _ _ _ _ _ _ _ _ _ _ _ _ _ _ _ _ _ _ _ _ _ _ _ _ _ _ _ _ _ _ _ _ _ _ _ _ _ _ _ _ _ _ _ _ _ _ _ _ _ _ _ _ _ _ _ _ HBA2 HNO
   ·have p8 : (gen == 0) = false := by simpa using g0
    have p9 : (gone == 0) = false := by simpa using o0
    have HOK : Hid (segsOk next 0 (l.take (i + 1))) := by
     show segsOk _ _ _
     rw [HTK.out, segsOk_append, HLO.out]
     refine ⟨HI.out, ?_, trivial⟩
     unfold Sg.ok
     simp only
     omega
    have HLN : Hid (lastOf 0 (l.take (i + 1)) = id) := by show _ = _; rw [HTK.out, lastOf_snoc]
    have HBN : Hid (Below (w.heap.size + 1) W0 (wr.alloc (.cells #[.int .i64 id, .int .i64 docs, .int .i64 gen, .int .i64 gone] 61))) := bel_new HB.out hbs hws _
    clear g0 o0
    go_wp2_with fail
    go_roundw
    case rel => exact ⟨i + 1, by omega, by rw [HLN.out], by go_num, HBN, HOK⟩
    case measure => simp [intOf]; omega
  ·obtain rfl : i = n := by omega
   have q0 : decide ((i : Int) < (i : Int)) = false := decide_eq_false (by omega)
   rw [← hlen, List.take_length] at HI
   go_wp2_with fail
   exact hexit wr _ _ _ _ _ _ _ _ _ _ _ _ _ _ _ _ _ _ _ _ _ _ _ _ _ _ _ _ _ _ _ _ _ _ _ _ _ _ _ _ _ _ _ _ _ _ _ _ _ _ _ _ _ _ _ _ _ _ _ _ _ _ _ _ HBW HI
end Go.Proofs.YtkhemhiifhggmaaGreatDoor
namespace Go.Proofs.YtkhemhiifhggmaaGreatDoor
open Go.RowKit Go.Maps
set_option linter.unusedVariables false
theorem check_any (w : World) (B : Nat) (hB : B ≤ w.heap.size) (A : Option Addr) (n c : Nat) (l : List Sg) (HS : Hid (SegsIn w B A n l)) (hn : n ≤ 4398046511104) (next : Int) :
  Calls Tryz.prog 10 #[.agg #[.int .i64 next, .slice A n c]] w fun e w' => e = .returned (.int .i64 (checkP next l)) ∧ Below w.heap.size w w' := by
 have hpb := bnew (brefl w) (.cells #[.int .i64 next, .slice A n c] 24)
 have hnw := heap_alloc_new w (.cells #[.int .i64 next, .slice A n c] 24)
 by_cases h1 : next < 1
 ·have p0 : decide (next < 1) = true := decide_eq_true h1
  have HC : Hid (checkP next l = 1) := if_neg (fun h => by have := h.1; omega)
  have HB := Lib.hid hpb
  clear hpb hnw h1
  go_enter Tryz.func10, Tryz.ntmps10
  go_wp2_with fail
  go_ret
  exact ⟨by rw [HC.out]; rfl, HB.out⟩
 ·have p0 : decide (next < 1) = false := decide_eq_false h1
  by_cases h2 : next > 999999999
  ·have p1 : decide (next > 999999999) = true := decide_eq_true h2
   have HC : Hid (checkP next l = 1) := if_neg (fun h => by have := h.2.1; omega)
   have HB := Lib.hid hpb
   clear hpb hnw h1 h2
   go_enter Tryz.func10, Tryz.ntmps10
   go_wp2_with fail
   go_ret
   exact ⟨by rw [HC.out]; rfl, HB.out⟩
  ·have p1 : decide (next > 999999999) = false := decide_eq_false h2
   have HB := Lib.hid hpb
   have HNW := Lib.hid hnw
   clear hpb hnw
   go_enter Tryz.func10, Tryz.ntmps10
   go_wp2_with fail
   refine check_o w _ B hB A n c l HS hn next 0 rfl _ rfl ?_ ?_ _ _ _ _ _ _ _ _ _ _ _ _ _ _ _ _ _ _ _ _ _ _ _ _ _ _ _ _ _ _ _ _ _ _ _ _ _ _ _ _ _ _ _ _ _ _ _ _ _ _ _ _ _ _ _ _ _ _ _ _ _ _ _ _ _ _ _ _ _ _ _ _ _ _ (fun c a a' w hd h => by cases a; cases a'; cases hd; exact h) ?_ ?_
   ·refine Lib.hid fun W h => ?_
    exact (h.cell (p := ⟨w.heap.size, 0, none⟩) (by show w.heap.size < _; omega)).trans (by simp)
   ·exact Lib.hid ⟨HB.out, by simp⟩
   ·intro W x3 x17 u5 u18 u19 u20 u21 u22 u23 u24 u25 u26 u27 u28 u29 u30 u31 u32 u33 u34 u35 u36 u37 u38 u39 u40 u41 u42 u43 u44 u45 u46 u47 u48 u49 u50 u51 u52 u53 u54 u55 u56 u57 u58 u59 u60 u61 u62 u63 u64 u65 u66 u67 u68 u69 u70 u71 u72 u73 u74 u75 u76 u77 HBW HO
    have HC : Hid (checkP next l = 1) := if_neg (fun h => HO.out h.2.2)
    go_wp2_with fail
    go_ret
    exact ⟨by rw [HC.out]; rfl, HBW.out⟩
   ·intro W x3 x17 u2 u5 u18 u19 u20 u21 u22 u23 u24 u25 u26 u27 u28 u29 u30 u31 u32 u33 u34 u35 u36 u37 u38 u39 u40 u41 u42 u43 u44 u45 u46 u47 u48 u49 u50 u51 u52 u53 u54 u55 u56 u57 u58 u59 u60 u61 u62 u63 u64 u65 u66 u67 u68 u69 u70 u71 u72 u73 u74 u75 u76 u77 HBW HO
    have HC : Hid (checkP next l = 0) := if_pos ⟨by omega, by omega, HO.out⟩
    go_wp2_with fail
    go_ret
    exact ⟨by rw [HC.out]; rfl, HBW.out⟩
end Go.Proofs.YtkhemhiifhggmaaGreatDoor
