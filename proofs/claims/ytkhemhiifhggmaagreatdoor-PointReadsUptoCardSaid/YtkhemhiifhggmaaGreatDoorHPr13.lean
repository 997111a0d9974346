/- glossref20.Read: the loops. -/
import Derived.Test.YtkhemhiifhggmaaGreatDoorHPr9
import Derived.Test.YtkhemhiifhggmaaGreatDoorHPr11
import Derived.Test.YtkhemhiifhggmaaGreatDoorHPr12
import Derived.Test.YtkhemhiifhggmaaGreatDoorHPr6
import Derived.Test.YtkhemhiifhggmaaGreatDoorHPr8
import Derived.Test.YtkhemhiifhggmaaGreatDoorHPr3
set_option maxRecDepth 100000
set_option maxHeartbeats 40000000
namespace Go.Proofs.YtkhemhiifhggmaaGreatDoor
open Go.RowKit Go.Maps
set_option linter.unusedVariables false
theorem el_ints : Elem Tryz.prog 75 3 1 8 := Elem.mk_ Tryz.underlying75 (z := .int .i64 0) (by kernel_rfl) rfl (by omega)
def strSz : Value → Nat
 | .string s => s.size
 | _ => 0
theorem drop_arr (t : List UInt8) (k : Nat) : (⟨t.toArray⟩ : ByteArray).extract k t.length = ⟨(t.drop k).toArray⟩ := by
 apply ByteArray.ext
 apply Array.ext'
 simp [ByteArray.data_extract, List.take_of_length_le]
theorem allR_more {c t r : List UInt8} {L : List Int} {z : Int} (h : allR c = (allR t).map (L ++ ·)) (hc : cntR t = some (z, r)) : allR c = (allR r).map ((L ++ [z]) ++ ·) := by
 rw [h, allR_step hc, Option.map_map]
 congr 1
 funext m
 simp
theorem allR_dead {c t : List UInt8} {L : List Int} (h : allR c = (allR t).map (L ++ ·)) (ht : t ≠ []) (hc : cntR t = none) : allR c = none := by
 rcases allR_stop hc with e | e
 ·rw [h, e]; rfl
 ·exact absurd e ht
theorem rread_o (w wA W0 : World) (rz : Nat) (HZ : Hid (wA.heap[rz]? = some (.cells #[.int .i64 0, .slice none 0 0] 24 (0, 0)) ∧ Below w.heap.size w wA ∧ w.heap.size ≤ rz)) (HB0 : Hid (Below wA.heap.size wA W0)) (c : List UInt8) (hc : c.length ≤ 1099511627000)
  (c0 c1 c5 c10 c11 c12 c13 c14 c15 c16 c17 c18 c19 c39 c40 c41 c42 c43 c44 c45 c46 c47 c48 c49 c50 c51 c52 c53 c54 c55 c56 c57 c58 c59 c60 c61 c62 c63 c64 c65 c66 c67 c68 c69 c70 c71 c72 c73 c74 c75 c76 c77 c78 c79 c80 c81 c82 c83 c84 c85 c86 c87 c88 c89 c90 c91 c92 c93 c94 c95 c96 c97 c98 c99 u3 u7 u8 u9 u20 u21 u22 u23 u24 u25 u26 u27 u28 u29 u30 u31 u32 u33 u34 u35 u36 u37 u38 : Value) (Q0 : Exit → Act → World → Prop) (hQ0 : ∀ c (a a' : Act) w, a.defers = a'.defers → Q0 (.panic c) a w → Q0 (.panic c) a' w)
  (hret : ∀ (W : World) (x4 x6 u7 u8 u9 u20 u21 u22 u23 u24 u25 u26 u27 u28 u29 u30 u31 u32 u33 u34 u35 u36 u37 u38 : Value), Hid (allR c = none) → Hid (Below w.heap.size w W ∧ W.heap[rz]? = some (.cells #[.int .i64 0, .slice none 0 0] 24 (0, 0))) → Q0 .ret ⟨List.toArray (c0 :: c1 :: .pointer (some ⟨rz, 0, none⟩) :: .int .i64 18 :: x4 :: c5 :: x6 :: u7 :: u8 :: u9 :: c10 :: c11 :: c12 :: c13 :: c14 :: c15 :: c16 :: c17 :: c18 :: c19 :: u20 :: u21 :: u22 :: u23 :: u24 :: u25 :: u26 :: u27 :: u28 :: u29 :: u30 :: u31 :: u32 :: u33 :: u34 :: u35 :: u36 :: u37 :: u38 :: c39 :: c40 :: c41 :: c42 :: c43 :: c44 :: c45 :: c46 :: c47 :: c48 :: c49 :: c50 :: c51 :: c52 :: c53 :: c54 :: c55 :: c56 :: c57 :: c58 :: c59 :: c60 :: c61 :: c62 :: c63 :: c64 :: c65 :: c66 :: c67 :: c68 :: c69 :: c70 :: c71 :: c72 :: c73 :: c74 :: c75 :: c76 :: c77 :: c78 :: c79 :: c80 :: c81 :: c82 :: c83 :: c84 :: c85 :: c86 :: c87 :: c88 :: c89 :: c90 :: c91 :: c92 :: c93 :: c94 :: c95 :: c96 :: c97 :: c98 :: c99 :: []), []⟩ W)
  (hexit : ∀ (W : World) (L : List Int) (A : Option Addr) (m cp : Nat) (x4 u3 u7 u8 u9 u20 u21 u22 u23 u24 u25 u26 u27 u28 u29 u30 u31 u32 u33 u34 u35 u36 u37 u38 : Value), Hid (allR c = some L) → Hid (m ≤ 1099511627000) → Hid (Below wA.heap.size wA W) → Hid (W.ownsRow wA.heap.size 3 1 (.slice A m cp) m (L.map (.int .i64))) → Q0 (.exit 0) ⟨List.toArray (c0 :: c1 :: .pointer (some ⟨rz, 0, none⟩) :: u3 :: x4 :: c5 :: .slice A m cp :: u7 :: u8 :: u9 :: c10 :: c11 :: c12 :: c13 :: c14 :: c15 :: c16 :: c17 :: c18 :: c19 :: u20 :: u21 :: u22 :: u23 :: u24 :: u25 :: u26 :: u27 :: u28 :: u29 :: u30 :: u31 :: u32 :: u33 :: u34 :: u35 :: u36 :: u37 :: u38 :: c39 :: c40 :: c41 :: c42 :: c43 :: c44 :: c45 :: c46 :: c47 :: c48 :: c49 :: c50 :: c51 :: c52 :: c53 :: c54 :: c55 :: c56 :: c57 :: c58 :: c59 :: c60 :: c61 :: c62 :: c63 :: c64 :: c65 :: c66 :: c67 :: c68 :: c69 :: c70 :: c71 :: c72 :: c73 :: c74 :: c75 :: c76 :: c77 :: c78 :: c79 :: c80 :: c81 :: c82 :: c83 :: c84 :: c85 :: c86 :: c87 :: c88 :: c89 :: c90 :: c91 :: c92 :: c93 :: c94 :: c95 :: c96 :: c97 :: c98 :: c99 :: []), []⟩ W) :
  Code.wp Tryz.prog (.loop (loopOf Tryz.f18 0)) Q0 ⟨List.toArray (c0 :: c1 :: .pointer (some ⟨rz, 0, none⟩) :: u3 :: .string ⟨c.toArray⟩ :: c5 :: .slice none 0 0 :: u7 :: u8 :: u9 :: c10 :: c11 :: c12 :: c13 :: c14 :: c15 :: c16 :: c17 :: c18 :: c19 :: u20 :: u21 :: u22 :: u23 :: u24 :: u25 :: u26 :: u27 :: u28 :: u29 :: u30 :: u31 :: u32 :: u33 :: u34 :: u35 :: u36 :: u37 :: u38 :: c39 :: c40 :: c41 :: c42 :: c43 :: c44 :: c45 :: c46 :: c47 :: c48 :: c49 :: c50 :: c51 :: c52 :: c53 :: c54 :: c55 :: c56 :: c57 :: c58 :: c59 :: c60 :: c61 :: c62 :: c63 :: c64 :: c65 :: c66 :: c67 :: c68 :: c69 :: c70 :: c71 :: c72 :: c73 :: c74 :: c75 :: c76 :: c77 :: c78 :: c79 :: c80 :: c81 :: c82 :: c83 :: c84 :: c85 :: c86 :: c87 :: c88 :: c89 :: c90 :: c91 :: c92 :: c93 :: c94 :: c95 :: c96 :: c97 :: c98 :: c99 :: []), []⟩ W0 := by
 conv => arg 2; arg 1; whnf
 go_loopw [4, 6] (fun sv rv wr => ∃ (t : List UInt8) (L : List Int) (A : Option Addr) (m cp : Nat), sv = .string ⟨t.toArray⟩ ∧ rv = .slice A m cp ∧ m + t.length ≤ c.length ∧ Hid (allR c = (allR t).map (L ++ ·)) ∧ Hid (Below wA.heap.size wA wr) ∧ Hid (wr.ownsRow wA.heap.size 3 1 (.slice A m cp) m (L.map (.int .i64)))) (fun sv _ _ => strSz sv)
 case atStart => exact ⟨c, [], none, 0, 0, rfl, rfl, by omega, (by show _ = _; simp), HB0, ⟨by simp, .inl ⟨rfl, rfl⟩⟩⟩
 case round =>
  clear HB0
  obtain ⟨t, L, A, m, cp, rfl, rfl, hml, HA, HB, HR⟩ := hrel
  have hz := size_arr t
  by_cases ht : t = []
  ·subst ht
   have HE : Hid (allR c = some L) := by show _ = _; rw [HA.out, allR_nil]; simp
   have HM : Hid (m ≤ 1099511627000) := by show m ≤ _; omega
   clear hret
   go_wp2_with fail
   first
    | exact hexit wr L A m cp _ _ _ _ _ _ _ _ _ _ _ _ _ _ _ _ _ _ _ _ _ _ _ _ HE HM HB HR
    | skip
  ·have hpos : 0 < t.length := List.length_pos_iff.2 ht
   have q0 : decide ((t.length : Int) > 0) = true := decide_eq_true (by omega)
   have q01 : decide (0 < t.length) = true := decide_eq_true hpos
   have HC := Lib.hid (refcnt_any wr t (by omega))
   have HD : Hid (cntR t = if (readCnt t).2.1 = 0 then some ((readCnt t).1, (readCnt t).2.2) else none) := rfl
   have HT := Lib.hid ht
   obtain ⟨x, hx⟩ : ∃ x, (readCnt t).2.1 = x := ⟨_, rfl⟩
   rw [hx] at HC HD
   clear hx ht
   by_cases hx0 : x = 0
   ·subst hx0
    have HLT := Lib.hid (cntR_lt (t := t) (a := ((readCnt t).1, (readCnt t).2.2)) (by rw [HD.out, if_pos rfl]))
    have HAN := Lib.hid (allR_more HA.out (z := (readCnt t).1) (r := (readCnt t).2.2) (by rw [HD.out, if_pos rfl]))
    generalize (readCnt t).1 = z at *
    generalize (readCnt t).2.2 = r at *
    have HLN : Hid ((L ++ [z]).map (Value.int .i64) = L.map (.int .i64) ++ [.int .i64 z]) := by show _ = _; simp
    clear hret hexit HD
    go_wp2_with fail
    refine HC.out.mono ?_
    rintro e w1 ⟨⟨k, rfl, hk⟩, hb1⟩
    obtain ⟨hk0, hkt, hrk⟩ := hk (by trivial)
    obtain ⟨K, rfl⟩ := Int.eq_ofNat_of_zero_le hk0
    rw [Int.toNat_natCast] at hrk
    have hcut := drop_arr t K
    rw [← hrk] at hcut
    have hlt : r.length < t.length := HLT.out
    have hKt : K ≤ t.length := by omega
    have HB1 := Lib.hid (HB.out.trans (hb1.mono HB.out.size))
    have HR1 := Lib.hid (own_kept HR.out hb1)
    have hzr := size_arr r
    clear hk hb1 hk0 hkt hrk HC
    go_wp2_with (at_builtin; refine wpList_pushm wA w1 _ rfl _ _ _ rfl el_ints _ _ _ rfl HR1.out (m := 1) rfl (by simp) rfl (by simp [Value.oneCell']) (by unfold maxLen; omega) (by omega) HB1.out.size HB1.out ?_; intro v2 w2 hown9 hb9 hg9 hor9; obtain ⟨A2, p2, rfl, _⟩ := own_shape hown9; have HR2 := Lib.hid hown9; have HW2 := Lib.hid hb9; clear hown9 hb9 hg9 hor9)
    go_roundw
    case rel => exact ⟨r, L ++ [z], A2, m + 1, p2, rfl, rfl, by omega, HAN, HW2, by rw [HLN.out]; exact HR2⟩
    case measure => simp only [strSz, hz, hzr]; omega
   ·have HAN := Lib.hid (allR_dead HA.out HT.out (by rw [HD.out, if_neg hx0]))
    have q1 : (x != 0) = true := by simpa using hx0
    clear hexit HD hx0
    go_wp2_with fail
    refine HC.out.mono ?_
    rintro e w1 ⟨⟨k, rfl, _⟩, hb1⟩
    have HB1 := Lib.hid (HB.out.trans (hb1.mono HB.out.size))
    have KZ : Hid (w1.heap[rz]? = some (.cells #[.int .i64 0, .slice none 0 0] 24 (0, 0))) := (HB1.out.block _ (Array.getElem?_eq_some_iff.1 HZ.out.1).1).trans HZ.out.1
    obtain ⟨x0, x1, g0, g1⟩ := cells2 KZ.out
    have hsz := HB1.out.size
    have HBW : Hid (Below w.heap.size w w1) := bcall HZ.out.2.1 HB1.out
    have hw1 := HBW.out.size
    clear hb1 HC
    go_wp2_with fail
    refine hret _ _ _ _ _ _ _ _ _ _ _ _ _ _ _ _ _ _ _ _ _ _ _ _ _ HAN ?_
    exact ⟨(HBW.out.setCell HZ.out.2.2 _).setCell HZ.out.2.2 _, two_set KZ.out _ _⟩
theorem quads_at : ∀ (j : Nat) (M : List Int) (z0 z1 z2 z3 : Int), M[4 * j]? = some z0 → M[4 * j + 1]? = some z1 → M[4 * j + 2]? = some z2 → M[4 * j + 3]? = some z3 → (quads M)[j]? = some ⟨z0, z1, z2, z3⟩
 |
  0, a :: b :: c :: d :: r, z0, z1, z2, z3, h0, h1, h2, h3 => by
  simp at h0 h1 h2 h3
  subst h0 h1 h2 h3
  rfl
 |
  j + 1, a :: b :: c :: d :: r, z0, z1, z2, z3, h0, h1, h2, h3 => by
  have e : ∀ q, (a :: b :: c :: d :: r)[4 * (j + 1) + q]? = r[4 * j + q]? := fun q => by
   rw [show 4 * (j + 1) + q = 4 * j + q + 1 + 1 + 1 + 1 by omega]
   rfl
  rw [show 4 * (j + 1) = 4 * (j + 1) + 0 by omega] at h0
  rw [e] at h0 h1 h2 h3
  exact quads_at j r z0 z1 z2 z3 h0 h1 h2 h3
 | j, [], z0, z1, z2, z3, h0, _, _, _ => by simp at h0
 |
  j, [a], z0, z1, z2, z3, _, h1, _, _ => by
  rw [List.getElem?_eq_none (by simp)] at h1; cases h1
 |
  j, [a, b], z0, z1, z2, z3, _, _, h2, _ => by
  rw [List.getElem?_eq_none (by simp)] at h2; cases h2
 |
  j, [a, b, c], z0, z1, z2, z3, _, _, _, h3 => by
  rw [List.getElem?_eq_none (by simp)] at h3; cases h3
theorem quads_len : ∀ (N : Nat) (M : List Int), M.length = 4 * N → (quads M).length = N
 | 0, [], _ => rfl
 |
  N + 1, a :: b :: c :: d :: r, h => by
  show (quads r).length + 1 = N + 1
  rw [quads_len N r (by simp only [List.length_cons] at h; omega)]
 | 0, a :: r, h => by simp at h
 | N + 1, [], h => by simp at h
 | N + 1, [a], h => by simp at h; omega
 | N + 1, [a, b], h => by simp at h; omega
 | N + 1, [a, b, c], h => by simp at h; omega
theorem rread_p (wB W0 : World) (pp : Nat) (hpp : wB.heap.size = pp) (A : Option Addr) (m cp : Nat) (L M : List Int) (x y nx : Int) (hL : L = x :: y :: M) (N : Nat) (hM : M.length = 4 * N) (hN : N ≤ 1099511627776) (HI : Hid (Sl wB wB.heap.size 1 A m (L.map (.int .i64))))
  (HP0 : Hid (W0.heap[pp]? = some (.cells #[.int .i64 nx, .slice none 0 0] 24 (0, 0)))) (HB0 : Hid (Below pp wB W0))
  (c0 c1 c2 c3 c4 c5 c7 c8 c9 c12 c13 c14 c15 c16 c17 c18 c19 c20 c21 c22 c23 c24 c25 c26 c27 c28 c29 c30 c31 c32 c33 c34 c35 c36 c37 c38 c39 c40 c41 c42 c43 c44 c45 c46 c47 c48 c49 c50 c51 c52 c53 c54 c55 c56 c57 c58 c59 c60 c61 c62 c63 c95 c96 c97 c98 c99 u64 u65 u66 u67 u68 u69 u70 u71 u72 u73 u74 u75 u76 u77 u78 u79 u80 u81 u82 u83 u84 u85 u86 u87 u88 u89 u90 u91 u92 u93 u94 : Value) (Q0 : Exit → Act → World → Prop) (hQ0 : ∀ c (a a' : Act) w, a.defers = a'.defers → Q0 (.panic c) a w → Q0 (.panic c) a' w)
  (hexit : ∀ (W : World) (A' : Option Addr) (cp' : Nat) (x11 u64 u65 u66 u67 u68 u69 u70 u71 u72 u73 u74 u75 u76 u77 u78 u79 u80 u81 u82 u83 u84 u85 u86 u87 u88 u89 u90 u91 u92 u93 u94 : Value), Hid (Below pp wB W) → Hid (W.heap[pp]? = some (.cells #[.int .i64 nx, .slice A' N cp'] 24 (0, 0))) → Hid (W.ownsRow (pp + 1) 61 4 (.slice A' N cp') N ((quads M).flatMap Sg.cells)) → Q0 (.exit 2) ⟨List.toArray (c0 :: c1 :: c2 :: c3 :: c4 :: c5 :: .slice A m cp :: c7 :: c8 :: c9 :: .pointer (some ⟨pp, 0, none⟩) :: x11 :: c12 :: c13 :: c14 :: c15 :: c16 :: c17 :: c18 :: c19 :: c20 :: c21 :: c22 :: c23 :: c24 :: c25 :: c26 :: c27 :: c28 :: c29 :: c30 :: c31 :: c32 :: c33 :: c34 :: c35 :: c36 :: c37 :: c38 :: c39 :: c40 :: c41 :: c42 :: c43 :: c44 :: c45 :: c46 :: c47 :: c48 :: c49 :: c50 :: c51 :: c52 :: c53 :: c54 :: c55 :: c56 :: c57 :: c58 :: c59 :: c60 :: c61 :: c62 :: c63 :: u64 :: u65 :: u66 :: u67 :: u68 :: u69 :: u70 :: u71 :: u72 :: u73 :: u74 :: u75 :: u76 :: u77 :: u78 :: u79 :: u80 :: u81 :: u82 :: u83 :: u84 :: u85 :: u86 :: u87 :: u88 :: u89 :: u90 :: u91 :: u92 :: u93 :: u94 :: c95 :: c96 :: c97 :: c98 :: c99 :: []), []⟩ W) :
  Code.wp Tryz.prog (.loop (loopOf Tryz.f18 1)) Q0 ⟨List.toArray (c0 :: c1 :: c2 :: c3 :: c4 :: c5 :: .slice A m cp :: c7 :: c8 :: c9 :: .pointer (some ⟨pp, 0, none⟩) :: .int .i64 (2 : Int) :: c12 :: c13 :: c14 :: c15 :: c16 :: c17 :: c18 :: c19 :: c20 :: c21 :: c22 :: c23 :: c24 :: c25 :: c26 :: c27 :: c28 :: c29 :: c30 :: c31 :: c32 :: c33 :: c34 :: c35 :: c36 :: c37 :: c38 :: c39 :: c40 :: c41 :: c42 :: c43 :: c44 :: c45 :: c46 :: c47 :: c48 :: c49 :: c50 :: c51 :: c52 :: c53 :: c54 :: c55 :: c56 :: c57 :: c58 :: c59 :: c60 :: c61 :: c62 :: c63 :: u64 :: u65 :: u66 :: u67 :: u68 :: u69 :: u70 :: u71 :: u72 :: u73 :: u74 :: u75 :: u76 :: u77 :: u78 :: u79 :: u80 :: u81 :: u82 :: u83 :: u84 :: u85 :: u86 :: u87 :: u88 :: u89 :: u90 :: u91 :: u92 :: u93 :: u94 :: c95 :: c96 :: c97 :: c98 :: c99 :: []), []⟩ W0 := by
 have hlm : L.length = m := by have := HI.out.1; simpa using this
 have hm : m = 2 + 4 * N := by rw [← hlm, hL]; simp; omega
 have HLE := Lib.hid hL
 have HQL := Lib.hid (quads_len N M hM)
 clear hL
 conv => arg 2; arg 1; whnf
 go_loopw [11] (fun iv wr => ∃ (I j : Nat) (A' : Option Addr) (cp' : Nat), j ≤ N ∧ I = 2 + 4 * j ∧ iv = .int .i64 (I : Int) ∧ Hid (Below pp wB wr) ∧ Hid (wr.heap[pp]? = some (.cells #[.int .i64 nx, .slice A' j cp'] 24 (0, 0))) ∧ Hid (wr.ownsRow (pp + 1) 61 4 (.slice A' j cp') j (((quads M).take j).flatMap Sg.cells))) (fun iv _ => m + 4 - (intOf iv).toNat)
 case atStart => exact ⟨2, 0, none, 0, Nat.zero_le _, rfl, rfl, HB0, HP0, ⟨by simp, .inl ⟨rfl, rfl⟩⟩⟩
 case round =>
  clear HP0 HB0
  obtain ⟨I, j, A', cp', hj, hI, rfl, HB, HP, HR⟩ := hrel
  have HIE := Lib.hid hI
  by_cases hjn : j < N
  ·have q0 : decide ((I : Int) < (m : Int)) = true := decide_eq_true (by omega)
   have HIW := Lib.hid (HI.out.keep (fun b o hb => HB.out.cell (p := ⟨b, o, none⟩) (by show b < _; omega)))
   obtain ⟨b, off, rfl, hb, hcell⟩ := HIW.out.at_ (k := 0) (by omega)
   have at_ : ∀ q, q < 4 → ∃ z, M[4 * j + q]? = some z ∧ wr.cell? ⟨b, off + (I + q), none⟩ = some (.int .i64 z) := fun q hq => by
    obtain ⟨z, hz⟩ : ∃ z, M[4 * j + q]? = some z := ⟨M[4 * j + q]'(by omega), List.getElem?_eq_getElem _⟩
    refine ⟨z, hz, hcell (I + q) _ ?_⟩
    rw [HLE.out, List.getElem?_map, hI, show 2 + 4 * j + q = 4 * j + q + 1 + 1 by omega]
    show (M[4 * j + q]?).map _ = _
    rw [hz]
    rfl
   obtain ⟨z0, h0, e0⟩ := at_ 0 (by omega)
   obtain ⟨z1, h1, e1⟩ := at_ 1 (by omega)
   obtain ⟨z2, h2, e2⟩ := at_ 2 (by omega)
   obtain ⟨z3, h3, e3⟩ := at_ 3 (by omega)
   rw [Nat.add_zero] at e0
   have HQ := Lib.hid (quads_at j M z0 z1 z2 z3 h0 h1 h2 h3)
   have HRN : Hid (((quads M).take (j + 1)).flatMap Sg.cells = ((quads M).take j).flatMap Sg.cells ++ [.int .i64 z0, .int .i64 z1, .int .i64 z2, .int .i64 z3]) := by
    show _ = _
    rw [List.take_add_one, HQ.out, List.flatMap_append]
    rfl
   have w1 : IntKind.i64.wrap ((I : Int) + 1) = (I : Int) + 1 := IntWalk.i64_in _ (by omega)
   have w2 : IntKind.i64.wrap ((I : Int) + 2) = (I : Int) + 2 := IntWalk.i64_in _ (by omega)
   have w3 : IntKind.i64.wrap ((I : Int) + 3) = (I : Int) + 3 := IntWalk.i64_in _ (by omega)
   have w4 : IntKind.i64.wrap ((I : Int) + 4) = ((I + 4 : Nat) : Int) := by rw [IntWalk.i64_in _ (by omega)]; omega
   have i0 : (I : Int) < (m : Int) := by omega
   have i1 : (I : Int) + 1 < (m : Int) := by omega
   have i2 : (I : Int) + 2 < (m : Int) := by omega
   have i3 : (I : Int) + 3 < (m : Int) := by omega
   have t1 : ((I : Int) + 1).toNat = I + 1 := by omega
   have t2 : ((I : Int) + 2).toNat = I + 2 := by omega
   have t3 : ((I : Int) + 3).toNat = I + 3 := by omega
   obtain ⟨p0, p1, g0, g1⟩ := cells2 HP.out
   have hpl := (Array.getElem?_eq_some_iff.1 HP.out).1
   have hmb : m ≤ 4398046511106 := by omega
   have hjb : j ≤ 1099511627776 := by omega
   have hI3 : I + 3 < m := by omega
   have hbp : b < pp := by omega
   have HMB := Lib.hid hm
   clear at_ hcell h0 h1 h2 h3 hI hm hM hlm hexit HIW w1 w2 w3 i0 i1 i2 i3 t1 t2 t3 p0 p1 g0 g1
   go_wp2_with fail
   refine rread_r wr pp b off m cp I j cp' A' nx _ hbp hjb hI3 hmb HP HR z0 z1 z2 z3 e0 e1 e2 e3 _ _ _ _ _ _ _ _ _ _ _ _ _ _ _ _ _ _ _ _ _ _ _ _ _ _ _ _ _ _ _ _ _ _ _ _ _ _ _ _ _ _ _ _ _ _ _ _ _ _ _ _ _ _ _ _ _ _ _ _ _ _ _ _ _ _ _ _ _ _ _ _ _ _ _ _ _ _ _ _ _ _ _ _ _ _ _ _ _ _ _ _ _ _ _ _ _ _ (fun c a a' w hd h => hQ0 c a a' w hd h) ?_
   intro A2 kk W' u70 u71 u72 u73 u74 u75 u76 u77 u78 u79 u80 u81 u82 u83 u84 u85 u86 u87 u88 u89 u90 u91 u92 u93 u94 HBN HPN HRW
   rw [← HRN.out] at HRW
   have HBX := Lib.hid (HB.out.trans HBN.out)
   clear HB HP HR HBN
   go_wp2_with fail
   go_roundw
   case rel => exact ⟨I + 4, j + 1, A2, kk, by omega, by have := HIE.out; omega, by go_num, HBX, HPN, HRW⟩
   case measure => simp [intOf]; omega
  ·obtain rfl : j = N := by omega
   have q0 : decide ((I : Int) < (m : Int)) = false := decide_eq_false (by omega)
   rw [List.take_of_length_le (by rw [HQL.out]; omega)] at HR
   have hle : m ≤ I := by omega
   have q01 : decide (I < m) = false := decide_eq_false (by omega)
   clear hI hm
   go_wp2_with fail
   exact hexit wr A' cp' _ _ _ _ _ _ _ _ _ _ _ _ _ _ _ _ _ _ _ _ _ _ _ _ _ _ _ _ _ _ _ _ HB HP HR
end Go.Proofs.YtkhemhiifhggmaaGreatDoor
namespace Go.Proofs.YtkhemhiifhggmaaGreatDoor
open Go.RowKit Go.Maps
set_option linter.unusedVariables false
theorem readPost_bad {w W : World} {o : Option (Int × List Sg)} (ho : o = none) (h : Below w.heap.size w W) : ReadPost w o (.returned (.tuple #[.agg #[.int .i64 0, .slice none 0 0], .int .i64 18])) W := by
 subst ho
 exact ⟨h, rfl⟩
theorem four_split {k K R m : Nat} (h1 : k / 4 = K) (h2 : k % 4 = R) (h3 : R = 0) (h4 : m = 2 + k) (h5 : m ≤ 1099511627000) : k = 4 * K ∧ K ≤ 1099511627776 := by omega
theorem rread_any (w : World) (s : List UInt8) (hs : s.length ≤ 137438950000) : Calls Tryz.prog 18 #[.string ⟨s.toArray⟩] w (ReadPost w (readP s)) := by
 have HO := Lib.hid (fun W => ropen_any W s hs 2 (by omega))
 have HOL : Hid ((openB 2 s).1.length ≤ s.length) := by
  show _ ≤ _
  unfold openB
  split
  ·split
   ·split
    ·exact Nat.zero_le _
    ·split
     ·exact Nat.zero_le _
     ·split
      ·rename_i h _ _ _
       have h1 := (readBlk_short (s.drop 4)).resolve_right (fun hh => hh h)
       have h2 : (s.drop 4).length = s.length - 4 := List.length_drop ..
       show (readBlk (s.drop 4)).1.length ≤ _
       omega
      ·exact Nat.zero_le _
   ·exact Nat.zero_le _
  ·exact Nat.zero_le _
 have HPE := Lib.hid (readP_eq s)
 obtain ⟨P, hP⟩ : ∃ P, readP s = P := ⟨_, rfl⟩
 rw [hP] at HPE ⊢
 clear hP
 generalize (openB 2 s).1 = c at *
 generalize (openB 2 s).2 = x at *
 obtain ⟨wA, hwA⟩ : ∃ wA, w.alloc (.cells #[.int .i64 0, .slice none 0 0] 24) = wA := ⟨_, rfl⟩
 have hs1 : wA.heap.size = w.heap.size + 1 := by rw [← hwA]; simp
 have HZ : Hid (wA.heap[w.heap.size]? = some (.cells #[.int .i64 0, .slice none 0 0] 24 (0, 0)) ∧ Below w.heap.size w wA ∧ w.heap.size ≤ w.heap.size) := by
  show _ ∧ _
  rw [← hwA]
  exact ⟨heap_alloc_new _ _, bnew (brefl w) _, Nat.le_refl _⟩
 have HWA := Lib.hid hwA
 have HSA := Lib.hid hs1
 clear hwA hs1
 have HKZ : Hid (∀ W, Below wA.heap.size wA W → W.heap[w.heap.size]? = some (.cells #[.int .i64 0, .slice none 0 0] 24 (0, 0)) ∧ Below w.heap.size w W ∧ w.heap.size < W.heap.size) := fun W hb => ⟨(hb.block _ (Array.getElem?_eq_some_iff.1 HZ.out.1).1).trans HZ.out.1, bcall HZ.out.2.1 hb, by have := hb.size; have := HSA.out; omega⟩
 by_cases hx : x = 0
 ·have HP1 : Hid (P = (allR c).bind fun l => (shapeR l).bind fun p => if PtOk p.1 p.2 then some p else none) := by show _ = _; rw [HPE.out, if_pos hx]
  rw [hx] at HO
  clear hx HPE
  go_enter Tryz.func18, Tryz.ntmps18
  go_wp2_with fail
  rw [HWA.out]
  refine (HO.out _).mono ?_
  rintro e w1 ⟨rfl, hb1⟩
  have HB1 := Lib.hid hb1
  clear hb1
  go_wp2_with fail
  refine rread_o w wA w1 w.heap.size HZ HB1 c (by have := HOL.out; omega) _ _ _ _ _ _ _ _ _ _ _ _ _ _ _ _ _ _ _ _ _ _ _ _ _ _ _ _ _ _ _ _ _ _ _ _ _ _ _ _ _ _ _ _ _ _ _ _ _ _ _ _ _ _ _ _ _ _ _ _ _ _ _ _ _ _ _ _ _ _ _ _ _ _ _ _ _ _ _ _ _ _ _ _ _ _ _ _ _ _ _ _ _ _ _ _ _ _ (fun c a a' w hd h => by cases a; cases a'; cases hd; exact h) ?_ ?_
  ·intro W x4 x6 u7 u8 u9 u20 u21 u22 u23 u24 u25 u26 u27 u28 u29 u30 u31 u32 u33 u34 u35 u36 u37 u38 HA HX
   go_wp2_with fail
   refine bodyPost_ret (results_cell2 rfl _ _ _ _ rfl (load_point HX.out.2 rfl)) rfl ?_
   exact readPost_bad (by rw [HP1.out, HA.out]; rfl) HX.out.1
  ·intro W L A m cp x4 u3 u7 u8 u9 u20 u21 u22 u23 u24 u25 u26 u27 u28 u29 u30 u31 u32 u33 u34 u35 u36 u37 u38 HA HM HB HR
   have HP2 : Hid (P = (shapeR L).bind fun p => if PtOk p.1 p.2 then some p else none) := by show _ = _; rw [HP1.out, HA.out, Option.bind_some]
   have hlm : L.length = m := by have := HR.out.1; simpa using this
   have hm9 := HM.out
   obtain ⟨hz1, hz2, hz3⟩ := HKZ.out W HB.out
   have HZW := Lib.hid hz1
   have HBW := Lib.hid hz2
   obtain ⟨x0, x1, g0, g1⟩ := cells2 hz1
   clear hz1 hz2 HP1 HM HA HB1
   match L, hlm, HP2, HR with
   |
    [], hlm, HP2, HR =>
    have hm0 : m = 0 := by simpa using hlm.symm
    have q0 : decide ((m : Int) < 2) = true := decide_eq_true (by omega)
    clear hlm hm0
    go_wp2_with fail
    refine bodyPost_ret (results_cell2 rfl _ _ _ _ rfl (load_point (two_set HZW.out _ _) rfl)) rfl ?_
    exact readPost_bad (by rw [HP2.out]; rfl) ((HBW.out.setCell (Nat.le_refl _) _).setCell (Nat.le_refl _) _)
   |
    [a], hlm, HP2, HR =>
    have hm0 : m = 1 := by simpa using hlm.symm
    have q0 : decide ((m : Int) < 2) = true := decide_eq_true (by omega)
    clear hlm hm0
    go_wp2_with fail
    refine bodyPost_ret (results_cell2 rfl _ _ _ _ rfl (load_point (two_set HZW.out _ _) rfl)) rfl ?_
    exact readPost_bad (by rw [HP2.out]; rfl) ((HBW.out.setCell (Nat.le_refl _) _).setCell (Nat.le_refl _) _)
   |
    a :: y :: M, hlm, HP2, HR =>
    obtain ⟨k, hk⟩ : ∃ k, M.length = k := ⟨_, rfl⟩
    have hm2 : m = 2 + k := by rw [← hlm, ← hk]; simp; omega
    have HMK := Lib.hid hm2
    have HSH : Hid (shapeR (a :: y :: M) = if k % 4 = 0 ∧ y = ((k / 4 : Nat) : Int) then some (a, quads M) else none) := by show _ = _; rw [← hk]; rfl
    have HKL := Lib.hid hk
    have q0 : decide ((m : Int) < 2) = false := decide_eq_false (by omega)
    have w1 : IntKind.i64.wrap ((m : Int) - 2) = (k : Int) := by rw [IntWalk.i64_in _ (by omega)]; omega
    have HSL := Lib.hid (Sl.of_own HR.out)
    obtain ⟨b, off, rfl, hb, hcell⟩ := HSL.out.at_ (k := 0) (by omega)
    have e0 : W.cell? ⟨b, off, none⟩ = some (.int .i64 a) := hcell 0 _ rfl
    have e1 : W.cell? ⟨b, off + 1, none⟩ = some (.int .i64 y) := hcell 1 _ rfl
    have t1 : Int.tmod (k : Int) 4 = ((k % 4 : Nat) : Int) := by rw [Int.tmod_eq_emod_of_nonneg (by omega)]; omega
    have t2 : Int.tdiv (k : Int) 4 = ((k / 4 : Nat) : Int) := by rw [Int.tdiv_eq_ediv_of_nonneg (by omega)]; omega
    have hk9 : k ≤ 1099511627000 := by omega
    have t3 : (k : Int) / 4 = ((k / 4 : Nat) : Int) := by omega
    have i1 : (1 : Int) < (m : Int) := by omega
    have i0 : (0 : Int) < (m : Int) := by omega
    clear hcell hlm hk hm2
    obtain ⟨K4, hK4⟩ : ∃ K4, k / 4 = K4 := ⟨_, rfl⟩
    obtain ⟨R4, hR4⟩ : ∃ R4, k % 4 = R4 := ⟨_, rfl⟩
    have HK4 := Lib.hid (And.intro hK4 hR4)
    have HT3 : Hid ((k : Int) / 4 = (K4 : Int)) := by show _ = _; rw [t3, hK4]
    have hK9 : K4 ≤ 1099511627000 := by omega
    have hR9 : R4 ≤ 3 := by omega
    clear t3
    rw [hK4] at t2
    rw [hR4] at t1
    rw [hK4, hR4] at HSH
    clear hK4 hR4
    by_cases h4 : R4 = 0
    ·have q1 : ((R4 : Int) != 0) = false := by simpa using h4
     by_cases hy : y = (K4 : Int)
     ·have q2 : (y != (K4 : Int)) = false := by simpa using hy
      have HP3 : Hid (P = if PtOk a (quads M) then some (a, quads M) else none) := by show _ = _; rw [HP2.out, HSH.out, if_pos ⟨h4, hy⟩, Option.bind_some]
      have HM4 : Hid (M.length = 4 * K4 ∧ K4 ≤ 1099511627776) := by
       show _ ∧ _
       rw [HKL.out]
       exact four_split HK4.out.1 HK4.out.2 h4 HMK.out hm9
      have HQL := Lib.hid (quads_len K4 M HM4.out.1)
      clear HP2 HSH h4 hy
      obtain ⟨W3, hW3⟩ : ∃ W3, W.alloc (.cells #[.int .i64 a, .slice none 0 0] 24) = W3 := ⟨_, rfl⟩
      have HWE : Hid (W3.heap[W.heap.size]? = some (.cells #[.int .i64 a, .slice none 0 0] 24 (0, 0)) ∧ Below W.heap.size W W3) := by
       show _ ∧ _
       rw [← hW3]
       exact ⟨heap_alloc_new _ _, bnew (brefl W) _⟩
      have HW3 := Lib.hid hW3
      obtain ⟨pp, hpp⟩ : ∃ pp, W.heap.size = pp := ⟨_, rfl⟩
      have HPP := Lib.hid hpp
      clear hW3
      rw [hpp] at HWE
      go_wp2_with fail
      rw [HW3.out]
      clear hpp
      refine rread_p W W3 pp HPP.out _ m cp (a :: y :: M) M a y a rfl K4 HM4.out.1 HM4.out.2 HSL (Lib.hid HWE.out.1) (Lib.hid HWE.out.2) _ _ _ _ _ _ _ _ _ _ _ _ _ _ _ _ _ _ _ _ _ _ _ _ _ _ _ _ _ _ _ _ _ _ _ _ _ _ _ _ _ _ _ _ _ _ _ _ _ _ _ _ _ _ _ _ _ _ _ _ _ _ _ _ _ _ _ _ _ _ _ _ _ _ _ _ _ _ _ _ _ _ _ _ _ _ _ _ _ _ _ _ _ _ _ _ _ _ (fun c a a' w hd h => by cases a; cases a'; cases hd; exact h) ?_
      intro W4 A4 c4 x11 u64 u65 u66 u67 u68 u69 u70 u71 u72 u73 u74 u75 u76 u77 u78 u79 u80 u81 u82 u83 u84 u85 u86 u87 u88 u89 u90 u91 u92 u93 u94 HB4 HP4 HR4
      have HBA : Hid (Below wA.heap.size wA W4) := HB.out.trans (HB4.out.mono (by have := HB.out.size; have := HPP.out; omega))
      obtain ⟨hz1, hz2, hz3⟩ := HKZ.out W4 HBA.out
      have HZ4 := Lib.hid hz1
      have HBW4 := Lib.hid hz2
      have HSG : Hid (SegsIn W4 W4.heap.size A4 K4 (quads M)) := ⟨Sl.of_own HR4.out, HQL.out⟩
      have HCK := Lib.hid (rcheck_any W4 W4.heap.size (Nat.le_refl _) A4 K4 c4 (quads M) HSG (by have := HM4.out.2; omega) a)
      obtain ⟨v0, v1, _, _⟩ := cells2 HP4.out
      clear hz1 hz2 x0 x1 g0 g1 e0 e1 w1 i0 i1
      by_cases hok : PtOk a (quads M)
      ·have hck : checkP a (quads M) = 0 := if_pos hok
       rw [hck] at HCK
       have HPN : Hid (P = some (a, quads M)) := by show _ = _; rw [HP3.out, if_pos hok]
       clear hck hok HP3
       go_wp2_with fail
       refine HCK.out.mono ?_
       rintro e w6 ⟨rfl, hb6⟩
       have HZ6 : Hid (w6.heap[w.heap.size]? = some (.cells #[.int .i64 0, .slice none 0 0] 24 (0, 0))) := (hb6.block _ (Array.getElem?_eq_some_iff.1 HZ4.out).1).trans HZ4.out
       have HBW6 : Hid (Below w.heap.size w w6) := bcall HBW4.out hb6
       have HP6 : Hid (w6.heap[pp]? = some (.cells #[.int .i64 a, .slice A4 K4 c4] 24 (0, 0))) := (hb6.block _ (Array.getElem?_eq_some_iff.1 HP4.out).1).trans HP4.out
       have HR6 := Lib.hid (own_kept HR4.out hb6)
       obtain ⟨y0, y1, j0, j1⟩ := cells2 HZ6.out
       obtain ⟨u0, u1, _, _⟩ := cells2 HP6.out
       have hz6 : w.heap.size < w6.heap.size := (Array.getElem?_eq_some_iff.1 HZ6.out).1
       clear hb6 v0 v1 HCK HR4
       go_wp2_with fail
       refine bodyPost_ret (results_cell2 rfl _ _ _ _ rfl (load_point (two_set HZ6.out _ _) rfl)) rfl ?_
       rw [HPN.out]
       have hppw : w.heap.size < pp + 1 := by have h1 := HB.out.size; have h2 := HPP.out; have h3 := HSA.out; omega
       refine ⟨(HBW6.out.setCell (Nat.le_refl _) _).setCell (Nat.le_refl _) _, A4, K4, c4, rfl, ⟨Sl.of_own (own_set (own_set HR6.out hppw) hppw), HQL.out⟩, ?_, ?_, ?_⟩
       ·have h1 := HK4.out
        have h2 := HMK.out
        omega
       ·rcases HR6.out.2 with ⟨hv, _⟩ | ⟨g, cap, cur, hv, _, _, hc, _⟩
        ·injection hv with _ e1 e2
         omega
        ·injection hv with _ _ e2
         omega
       ·intro ad ha
        rcases HR6.out.2 with ⟨hv, _⟩ | ⟨g, cap, cur, hv, hg, _⟩
        ·injection hv with e1
         rw [ha] at e1
         cases e1
        ·injection hv with e1
         rw [ha] at e1
         injection e1 with e1
         rw [e1]
         show w.heap.size ≤ g
         omega
      ·have hck : checkP a (quads M) = 1 := if_neg hok
       rw [hck] at HCK
       have HPN : Hid (P = none) := by show _ = _; rw [HP3.out, if_neg hok]
       clear hck hok HP3
       go_wp2_with fail
       refine HCK.out.mono ?_
       rintro e w6 ⟨rfl, hb6⟩
       have HZ6 : Hid (w6.heap[w.heap.size]? = some (.cells #[.int .i64 0, .slice none 0 0] 24 (0, 0))) := (hb6.block _ (Array.getElem?_eq_some_iff.1 HZ4.out).1).trans HZ4.out
       have HBW6 : Hid (Below w.heap.size w w6) := bcall HBW4.out hb6
       obtain ⟨y0, y1, j0, j1⟩ := cells2 HZ6.out
       have hz6 : w.heap.size < w6.heap.size := (Array.getElem?_eq_some_iff.1 HZ6.out).1
       clear hb6 v0 v1 HCK HR4
       go_wp2_with fail
       refine bodyPost_ret (results_cell2 rfl _ _ _ _ rfl (load_point (two_set HZ6.out _ _) rfl)) rfl ?_
       exact readPost_bad HPN.out ((HBW6.out.setCell (Nat.le_refl _) _).setCell (Nat.le_refl _) _)
     ·have q2 : (y != (K4 : Int)) = true := by simpa using hy
      have HPN : Hid (P = none) := by show _ = _; rw [HP2.out, HSH.out, if_neg (fun h => hy h.2)]; rfl
      clear HP2 HSH h4 hy
      go_wp2_with fail
      refine bodyPost_ret (results_cell2 rfl _ _ _ _ rfl (load_point (two_set HZW.out _ _) rfl)) rfl ?_
      exact readPost_bad HPN.out ((HBW.out.setCell (Nat.le_refl _) _).setCell (Nat.le_refl _) _)
    ·have q1 : ((R4 : Int) != 0) = true := by simpa using h4
     have HPN : Hid (P = none) := by show _ = _; rw [HP2.out, HSH.out, if_neg (fun h => h4 h.1)]; rfl
     clear HP2 HSH h4
     go_wp2_with fail
     refine bodyPost_ret (results_cell2 rfl _ _ _ _ rfl (load_point (two_set HZW.out _ _) rfl)) rfl ?_
     exact readPost_bad HPN.out ((HBW.out.setCell (Nat.le_refl _) _).setCell (Nat.le_refl _) _)
 ·have HPN : Hid (P = none) := by show _ = _; rw [HPE.out, if_neg hx]
  have q0 : (x != 0) = true := by simpa using hx
  clear hx HPE
  go_enter Tryz.func18, Tryz.ntmps18
  go_wp2_with fail
  rw [HWA.out]
  refine (HO.out _).mono ?_
  rintro e w1 ⟨rfl, hb1⟩
  obtain ⟨hz1, hz2, hz3⟩ := HKZ.out w1 hb1
  have HZW := Lib.hid hz1
  have HBW := Lib.hid hz2
  obtain ⟨x0, x1, g0, g1⟩ := cells2 hz1
  clear hb1 hz1 hz2
  go_wp2_with fail
  refine bodyPost_ret (results_cell2 rfl _ _ _ _ rfl (load_point (two_set HZW.out _ _) rfl)) rfl ?_
  exact readPost_bad HPN.out ((HBW.out.setCell (Nat.le_refl _) _).setCell (Nat.le_refl _) _)
end Go.Proofs.YtkhemhiifhggmaaGreatDoor
namespace Go.Proofs.YtkhemhiifhggmaaGreatDoor
open Go.RowKit Go.Maps Go.Sort
set_option linter.unusedVariables false
section
variable {H : Type} {D : DS H} {f h : ByteArray → Option Int} {g : Int → List UInt8 × Int} {L : Int}
structure Two (n nx0 nx : Int) (l0 l : List Sg) (f : ByteArray → Option Int) (g : Int → List UInt8 × Int) : Prop where
 on : ∀ s k, f s = some k → s = newN ∨ s = bs (nameP 112 n) ∨ s = bs (nameP 112 (n + 1))
 c1 : ∀ k, f (bs (nameP 112 (n + 1))) = some k → (g k).1 = sealB 2 (textP nx l)
 c0 : f (bs (nameP 112 (n + 1))) = none → ∃ k, f (bs (nameP 112 n)) = some k ∧ (g k).1 = sealB 2 (textP nx0 l0)
theorem Two.names {n nx0 nx : Int} {l0 l : List Sg} (t : Two n nx0 nx l0 l f g) (v : Vw D.names f) (hK : StrK D.names) : ∀ s ∈ strKeys D.names, s.length ≤ 1000 := by
 intro s hs
 rw [hK.mem, (v.2 _).1] at hs
 obtain ⟨k, hk⟩ := Option.isSome_iff_exists.1 hs
 rcases t.on _ _ hk with e | e | e
 ·have : s = [110, 101, 119] := bs_inj e
  rw [this]
  decide
 ·rw [bs_inj e]
  have := name_le 112 n
  omega
 ·rw [bs_inj e]
  have := name_le 112 (n + 1)
  omega
theorem Two.look {n nx0 nx : Int} {l0 l : List Sg} (t : Two n nx0 nx l0 l f g) (hn : 1 ≤ n ∧ n + 1 ≤ 999999999) (hp0 : PtOk nx0 l0) (hp : PtOk nx l) (v : DV D f h g L) (hd : D.down = false) (hK : StrK D.names) {ss : List (List UInt8)} (hss : ss.Perm (strKeys D.names)) :
  (latestD D ss = some (n + 1, nx, l) ∧ f (bs (nameP 112 (n + 1))) ≠ none) ∨ (f (bs (nameP 112 (n + 1))) = none ∧ latestD D ss = some (n, nx0, l0)) := by
 have hl := ptOk_len hp
 have hl0 := ptOk_len hp0
 cases e : f (bs (nameP 112 (n + 1))) with
 |
  some k =>
  left
  refine ⟨latest_at (p := (nx, l)) v hd hK hss (by omega) e (by rw [t.c1 k e]; exact read_seal hp (by omega)) fun s k' hk => ?_, by simp⟩
  rcases t.on s k' hk with e | e | e
  ·exact .inl e
  ·exact .inr ⟨n, by omega, e⟩
  ·exact .inr ⟨n + 1, by omega, e⟩
 |
  none =>
  right
  obtain ⟨k, hk, hgk⟩ := t.c0 e
  refine ⟨rfl, latest_at (p := (nx0, l0)) v hd hK hss (by omega) hk (by rw [hgk]; exact read_seal hp0 (by omega)) fun s k' hk' => ?_⟩
  rcases t.on s k' hk' with e' | e' | e'
  ·exact .inl e'
  ·exact .inr ⟨n, by omega, e'⟩
  ·rw [e', e] at hk'
   cases hk'
end
end Go.Proofs.YtkhemhiifhggmaaGreatDoor
namespace Go.Proofs.YtkhemhiifhggmaaGreatDoor
open Go.RowKit Go.Maps Go.Sort
set_option linter.unusedVariables false
theorem el_strs : Elem Tryz.prog 35 9 1 16 := Elem.mk_ Tryz.underlying35 (z := .string ⟨#[]⟩) (by kernel_rfl) rfl (by omega)
def segN (s : Sg) : List (List UInt8) := nameP 115 s.id :: if 0 < s.gen then [nameP 100 s.gen] else []
def filesR (n : Int) (l : List Sg) : List (List UInt8) := nameP 112 n :: l.flatMap segN
def filesZ (n : Int) (l : List Sg) : List (List UInt8) := Lib.compact (sortS (filesR n l))
theorem files_o (w W0 : World) (hb0 : Hid (Below w.heap.size w W0)) (hT : Tab w) (B : Nat) (hB : B ≤ w.heap.size) (nn : Int) (Ag : Option Addr) (ng cg : Nat) (l : List Sg) (HG : Hid (SegsIn w B Ag ng l)) (hng : ng ≤ 1099511627776) (HZ : Hid (∀ s ∈ l, (0 ≤ s.id ∧ s.id ≤ 999999999) ∧ 0 ≤ s.gen ∧ s.gen ≤ 999999999))
  (A : Option Addr) (m cp : Nat) (HL : Hid (W0.ownsRow w.heap.size 9 1 (.slice A m cp) m ([nameP 112 nn].map encStr)))
  (c0 c1 c2 c3 c4 c6 c8 c9 c10 c11 c34 c35 c36 c37 u7 u15 u16 u17 u18 u19 u20 u21 u22 u23 u24 u25 u26 u27 u28 u29 u30 u31 u32 u33 : Value) (Q0 : Exit → Act → World → Prop) (hQ0 : ∀ c (a a' : Act) w, a.defers = a'.defers → Q0 (.panic c) a w → Q0 (.panic c) a' w)
  (hexit : ∀ (V : World) (A : Option Addr) (m cp : Nat) (x14 u7 u15 u16 u17 u18 u19 u20 u21 u22 u23 u24 u25 u26 u27 u28 u29 u30 u31 u32 u33 : Value), Hid (m ≤ 2 * ng + 1) → Hid (Below w.heap.size w V) → Hid (V.ownsRow w.heap.size 9 1 (.slice A m cp) m ((filesR nn l).map encStr)) → Q0 (.exit 0) ⟨List.toArray (c0 :: c1 :: c2 :: c3 :: c4 :: .slice A m cp :: c6 :: u7 :: c8 :: c9 :: c10 :: c11 :: .slice Ag ng cg :: .int .i64 (ng : Int) :: x14 :: u15 :: u16 :: u17 :: u18 :: u19 :: u20 :: u21 :: u22 :: u23 :: u24 :: u25 :: u26 :: u27 :: u28 :: u29 :: u30 :: u31 :: u32 :: u33 :: c34 :: c35 :: c36 :: c37 :: []), []⟩ V) :
  Code.wp Tryz.prog (.loop (loopOf Tryz.f15 0)) Q0 ⟨List.toArray (c0 :: c1 :: c2 :: c3 :: c4 :: .slice A m cp :: c6 :: u7 :: c8 :: c9 :: c10 :: c11 :: .slice Ag ng cg :: .int .i64 (ng : Int) :: .int .i64 (0 : Int) :: u15 :: u16 :: u17 :: u18 :: u19 :: u20 :: u21 :: u22 :: u23 :: u24 :: u25 :: u26 :: u27 :: u28 :: u29 :: u30 :: u31 :: u32 :: u33 :: c34 :: c35 :: c36 :: c37 :: []), []⟩ W0 := by
 have hlen := HG.out.2
 conv => arg 2; arg 1; whnf
 go_loopw [5, 14] (fun rv iv wr => ∃ (i m cp : Nat) (A : Option Addr), i ≤ ng ∧ m ≤ 2 * i + 1 ∧ rv = .slice A m cp ∧ iv = .int .i64 (i : Int) ∧ Hid (Below w.heap.size w wr) ∧ Hid (wr.ownsRow w.heap.size 9 1 (.slice A m cp) m ((filesR nn (l.take i)).map encStr))) (fun _ iv _ => ng - (intOf iv).toNat)
 case atStart => exact ⟨0, m, cp, A, Nat.zero_le _, by have := HL.out.1; simp at this; omega, rfl, rfl, hb0, HL⟩
 case round =>
  clear HL hb0
  obtain ⟨i, m, cp, A, hi, hm, rfl, rfl, HB, HR⟩ := hrel
  by_cases hin : i < ng
  ·obtain ⟨s, hs⟩ : ∃ s, l[i]? = some s := ⟨l[i]'(by omega), List.getElem?_eq_getElem _⟩
   have hone : l.take (i + 1) = l.take i ++ [s] := by rw [List.take_add_one, hs]; rfl
   obtain ⟨b, off, rfl, hb, f0, f1, f2, f3⟩ := (HG.out.keep (HB.out.mono hB)).at_ hs
   have hz := HZ.out s (List.mem_of_getElem? hs)
   have HTw := Lib.hid (hT.below HB.out)
   obtain ⟨z0, z1, z2, z3⟩ := s
   dsimp only at f0 f1 f2 f3 hz
   have HO := Lib.hid hone
   clear hone hs
   have hpa := HB.out.trans ((bnew (brefl wr) (.cells #[.int .i64 z0, .int .i64 z1, .int .i64 z2, .int .i64 z3] 61)).mono HB.out.size)
   have HN1 := Lib.hid (pname_any _ (hT.below hpa) 115 z0 (by omega))
   obtain ⟨ns, hns⟩ : ∃ ns, nameP 115 z0 = ns := ⟨_, rfl⟩
   rw [hns] at HN1
   have HNS := Lib.hid hns
   have HX := Lib.hid (heap_alloc_new wr (.cells #[.int .i64 z0, .int .i64 z1, .int .i64 z2, .int .i64 z3] 61))
   have HPA := Lib.hid hpa
   clear hpa hns
   by_cases hgen : 0 < z2
   ·have q0 : decide (z2 > 0) = true := decide_eq_true hgen
    go_wp2_with fail
    refine HN1.out.mono ?_
    rintro e w1 ⟨rfl, hb1⟩
    have HW1 := Lib.hid (HPA.out.trans (hb1.mono HPA.out.size))
    have HR1 := Lib.hid (own_kept HR.out ((bnew (brefl wr) _).trans (hb1.mono (Below.size (bnew (brefl wr) _)))))
    have hx1 := (hb1.block _ (Array.getElem?_eq_some_iff.1 HX.out).1).trans HX.out
    have HX1 := Lib.hid hx1
    clear hb1 hx1
    go_wp2_with (at_builtin; refine wpList_pushm w w1 _ rfl _ _ _ rfl el_strs _ _ _ rfl HR1.out (m := 1) rfl (by simp) rfl (by simp [Value.oneCell']) (by unfold maxLen; omega) (by omega) HW1.out.size HW1.out ?_; intro v2 w2 hown9 hb9 hg9 hor9; obtain ⟨A2, p2, rfl, _⟩ := own_shape hown9; have HR2 := Lib.hid hown9; have HW2 := Lib.hid hb9; have bx : w2.heap[wr.heap.size]? = _ := (hg9.block _ (Array.getElem?_eq_some_iff.1 HX1.out).1 (fun e => by have := (HR.out.lt _ e.symm).2; omega)).trans HX1.out; have c2 := cell_of_row w2 wr.heap.size 2 _ _ (0, 0) bx; simp at c2; clear bx; clear hown9 hb9 hg9 hor9)
    have HN2 := Lib.hid (pname_any w2 (hT.below HW2.out) 100 z2 (by omega))
    obtain ⟨nd, hnd⟩ : ∃ nd, nameP 100 z2 = nd := ⟨_, rfl⟩
    rw [hnd] at HN2
    have HND := Lib.hid hnd
    have HNW : Hid ((filesR nn (l.take i)).map encStr ++ [.string ⟨ns.toArray⟩] ++ [.string ⟨nd.toArray⟩] = (filesR nn (l.take (i + 1))).map encStr) := by
     show _ = _
     rw [HO.out, filesR, filesR, List.flatMap_append, List.flatMap_singleton, segN, if_pos hgen, HNS.out, HND.out]
     simp [encStr]
    clear hnd
    refine HN2.out.mono ?_
    rintro e w3 ⟨rfl, hb3⟩
    have HW3 := Lib.hid (HW2.out.trans (hb3.mono HW2.out.size))
    have HR3 := Lib.hid (own_kept HR2.out hb3)
    clear hb3
    go_wp2_with (at_builtin; refine wpList_pushm w w3 _ rfl _ _ _ rfl el_strs _ _ _ rfl HR3.out (m := 1) rfl (by simp) rfl (by simp [Value.oneCell']) (by unfold maxLen; omega) (by omega) HW3.out.size HW3.out ?_; intro v4 w4 hown9 hb9 hg9 hor9; obtain ⟨A4, p4, rfl, _⟩ := own_shape hown9; have HR4 := Lib.hid hown9; have HW4 := Lib.hid hb9; clear hown9 hb9 hg9 hor9)
    go_roundw
    case rel => exact ⟨i + 1, m + 1 + 1, p4, A4, by omega, by omega, rfl, by go_num, HW4, Lib.hid (by rw [← HNW.out]; exact HR4.out)⟩
    case measure => simp [intOf]; omega
   ·have q0 : decide (z2 > 0) = false := decide_eq_false hgen
    go_wp2_with fail
    refine HN1.out.mono ?_
    rintro e w1 ⟨rfl, hb1⟩
    have HW1 := Lib.hid (HPA.out.trans (hb1.mono HPA.out.size))
    have HR1 := Lib.hid (own_kept HR.out ((bnew (brefl wr) _).trans (hb1.mono (Below.size (bnew (brefl wr) _)))))
    have hx1 := (hb1.block _ (Array.getElem?_eq_some_iff.1 HX.out).1).trans HX.out
    have HX1 := Lib.hid hx1
    clear hb1 hx1
    go_wp2_with (at_builtin; refine wpList_pushm w w1 _ rfl _ _ _ rfl el_strs _ _ _ rfl HR1.out (m := 1) rfl (by simp) rfl (by simp [Value.oneCell']) (by unfold maxLen; omega) (by omega) HW1.out.size HW1.out ?_; intro v2 w2 hown9 hb9 hg9 hor9; obtain ⟨A2, p2, rfl, _⟩ := own_shape hown9; have HR2 := Lib.hid hown9; have HW2 := Lib.hid hb9; have bx : w2.heap[wr.heap.size]? = _ := (hg9.block _ (Array.getElem?_eq_some_iff.1 HX1.out).1 (fun e => by have := (HR.out.lt _ e.symm).2; omega)).trans HX1.out; have c2 := cell_of_row w2 wr.heap.size 2 _ _ (0, 0) bx; simp at c2; clear bx; clear hown9 hb9 hg9 hor9)
    have HNW : Hid ((filesR nn (l.take i)).map encStr ++ [.string ⟨ns.toArray⟩] = (filesR nn (l.take (i + 1))).map encStr) := by
     show _ = _
     rw [HO.out, filesR, filesR, List.flatMap_append, List.flatMap_singleton, segN, if_neg (Int.not_lt.2 hgen), HNS.out]
     simp [encStr]
    go_roundw
    case rel => exact ⟨i + 1, m + 1, p2, A2, by omega, by omega, rfl, by go_num, HW2, Lib.hid (by rw [← HNW.out]; exact HR2.out)⟩
    case measure => simp [intOf]; omega
  ·obtain rfl : i = ng := by omega
   rw [List.take_of_length_le (by omega)] at HR
   go_wp2_with fail
   refine hexit _ _ _ _ _ _ _ _ _ _ _ _ _ _ _ _ _ _ _ _ _ _ _ _ _ ?_ HB HR
   exact Lib.hid hm
end Go.Proofs.YtkhemhiifhggmaaGreatDoor
namespace Go.Proofs.YtkhemhiifhggmaaGreatDoor
open Go.RowKit Go.Maps Go.Sort
set_option linter.unusedVariables false
theorem files_any (w : World) (hT : Tab w) (B : Nat) (hB : B ≤ w.heap.size) (nn nx : Int) (h63 : -9223372036854775808 ≤ nn ∧ nn ≤ 9223372036854775807) (A : Option Addr) (n c : Nat) (l : List Sg) (h : SegsIn w B A n l) (hn : n ≤ 1099511627776) (hz : ∀ s ∈ l, (0 ≤ s.id ∧ s.id ≤ 999999999) ∧ 0 ≤ s.gen ∧ s.gen ≤ 999999999) :
  Calls Tryz.prog 15 #[.int .i64 nn, .agg #[.int .i64 nx, .slice A n c]] w fun e w' => ∃ A' c', e = .returned (.slice A' (filesZ nn l).length c') ∧ w'.ownsRow w.heap.size 9 1 (.slice A' (filesZ nn l).length c') (filesZ nn l).length ((filesZ nn l).map encStr) ∧ Below w.heap.size w w' := by
 have hpa := bnew (brefl w) (.cells #[.int .i64 nx, .slice A n c] 24)
 have HPA := Lib.hid hpa
 have HG := Lib.hid h
 have HZ := Lib.hid hz
 have HNM := Lib.hid (pname_any _ (hT.below hpa) 112 nn h63)
 clear h hz hpa
 go_enter Tryz.func15, Tryz.ntmps15
 go_wp2_with fail
 refine HNM.out.mono ?_
 rintro e w1 ⟨rfl, hb1⟩
 have HB1 := Lib.hid (HPA.out.trans (hb1.mono HPA.out.size))
 have hbx := (hb1.block _ (Array.getElem?_eq_some_iff.1 (heap_alloc_new w (.cells #[.int .i64 nx, .slice A n c] 24))).1).trans (heap_alloc_new w (.cells #[.int .i64 nx, .slice A n c] 24))
 have hb2 := bnew (brefl w1) (.cells #[.string ⟨(nameP 112 nn).toArray⟩] 9)
 have hbx2 := (hb2.block _ (Array.getElem?_eq_some_iff.1 hbx).1).trans hbx
 have c1 := cell_of_row _ w.heap.size 1 _ _ (0, 0) hbx2
 simp at c1
 have HB2 := Lib.hid (HB1.out.trans (hb2.mono HB1.out.size))
 have HR2 := Lib.hid (own_new w1 #[.string ⟨(nameP 112 nn).toArray⟩] 9 1 1 rfl (by unfold maxLen; omega) rfl (base := w.heap.size) HB1.out.size)
 clear hbx hb2 hbx2 hb1
 go_wp2_with fail
 have HTw := Lib.hid (hT)
 refine files_o w _ HB2 hT B hB nn A n c l HG hn HZ _ _ _ HR2 _ _ _ _ _ _ _ _ _ _ _ _ _ _ _ _ _ _ _ _ _ _ _ _ _ _ _ _ _ _ _ _ _ _ _ (fun c a a' w hd h => by cases a; cases a'; cases hd; exact h) ?_
 intro V Av m cp x14 u7 u15 u16 u17 u18 u19 u20 u21 u22 u23 u24 u25 u26 u27 u28 u29 u30 u31 u32 u33 hm hbv hown
 have HMN : Hid ((filesR nn l).length = m) := by have := hown.out.1; simp at this; exact Lib.hid this
 have h0 : 0 < m := by rw [← HMN.out]; unfold filesR; exact Nat.succ_pos _
 have HSO := Lib.hid (sortS_own hown.out (by have := hm.out; omega))
 go_wp2_with fail
 refine HSO.out.mono ?_
 rintro e w4 ⟨rfl, hown4, hg4⟩
 have HB4 := Lib.hid (hbv.out.grown hg4 hbv.out.size (fun k hk => (hown.out.lt k hk).1))
 have HCO := Lib.hid (compactS_own hown4 (by have := hm.out; omega) h0)
 have HO4 := Lib.hid hown4
 clear hown4 hg4
 go_wp2_with fail
 refine HCO.out.mono ?_
 rintro e w5 ⟨rfl, hown5, hg5⟩
 have HB5 := Lib.hid (HB4.out.grown hg5 HB4.out.size (fun k hk => (HO4.out.lt k hk).1))
 have HO5 := Lib.hid hown5
 clear hown5 hg5
 go_wp2_with fail
 go_ret
 exact ⟨Av, cp, rfl, HO5.out, HB5.out⟩
end Go.Proofs.YtkhemhiifhggmaaGreatDoor
namespace Go.Proofs.YtkhemhiifhggmaaGreatDoor
open Go.RowKit Go.Maps
set_option linter.unusedVariables false
theorem neq_seg (w : World) (s t : Sg) : (binOp .neq 61 (.agg #[.int .i64 s.id, .int .i64 s.docs, .int .i64 s.gen, .int .i64 s.gone]) (.agg #[.int .i64 t.id, .int .i64 t.docs, .int .i64 t.gen, .int .i64 t.gone])).run Tryz.prog w = .ok (.bool (!decide (s = t))) w := by
 rw [run_neq_struct, run_equalIn_agg _ _ _ _ _ (by kernel_rfl) (by kernel_rfl)]
 simp [go_sem, Program.fieldsOf, Tryz.underlying61]
 obtain ⟨a, b, c, d⟩ := s
 obtain ⟨a', b', c', d'⟩ := t
 by_cases h1 : a = a' <;> by_cases h2 : b = b' <;> by_cases h3 : c = c' <;> by_cases h4 : d = d' <;> simp [h1, h2, h3, h4]
theorem gu_seg : Tryz.prog.eqGuardType Tryz.prog.depth 61 = false := by kernel_rfl
theorem psame_any (w : World) (B : Nat) (hB : B ≤ w.heap.size) (A A' : Option Addr) (n c n' c' : Nat) (l l' : List Sg) (h : SegsIn w B A n l) (h' : SegsIn w B A' n' l') (hn0 : n ≤ 4398046511104) (hn0' : n' ≤ 4398046511104) (x x' : Int) :
  Calls Tryz.prog 19 #[.agg #[.int .i64 x, .slice A n c], .agg #[.int .i64 x', .slice A' n' c']] w fun e w' => e = .returned (.bool (decide (x = x' ∧ l = l'))) ∧ Below w.heap.size w w' := by
 have hgu := gu_seg
 have hpa := bnew (bnew (brefl w) (.cells #[.int .i64 x, .slice A n c] 24)) (.cells #[.int .i64 x', .slice A' n' c'] 24)
 have HB := Lib.hid hpa
 by_cases hx : x = x'
 ·have q0 : (x != x') = false := by simpa using hx
  by_cases hn : n = n'
  ·have q1 : ((n : Int) != (n' : Int)) = false := by simp; omega
   have HS := Lib.hid h
   have HS' := Lib.hid h'
   have HX := Lib.hid hx
   subst hn
   clear h h' hpa hx
   go_enter Tryz.func19, Tryz.ntmps19
   go_wp2_with fail
   have HW := Lib.hid (bnew (bnew (brefl w) (.cells #[.int .i64 x, .slice A n c] 24)) (.cells #[.int .i64 x', .slice A' n c'] 24))
   go_loopw [5] (fun i wr => ∃ k : Nat, k ≤ n ∧ i = .int .i64 k ∧ Hid (l.take k = l'.take k) ∧ Hid (Below (w.heap.size + 2) ((w.alloc (.cells #[.int .i64 x, .slice A n c] 24)).alloc (.cells #[.int .i64 x', .slice A' n c'] 24)) wr)) (fun i _ => n - (intOf i).toNat)
   case atStart => exact ⟨0, Nat.zero_le _, rfl, rfl, Lib.hid ((brefl _).mono (by show w.heap.size + 2 ≤ ((w.heap.push _).push _).size; rw [Array.size_push, Array.size_push]; exact Nat.le_refl _))⟩
   case round =>
    obtain ⟨k, hk, rfl, HL, HBr⟩ := hrel
    have HBw := Lib.hid (HB.out.trans (HBr.out.mono (Nat.le_add_right _ _)))
    have b0 : wr.cell? ⟨w.heap.size, 1, none⟩ = some (.slice A n c) := by
     rw [HBr.out.cell (p := ⟨w.heap.size, 1, none⟩) (by show w.heap.size < w.heap.size + 2; omega)]
     simp [go_sem]
    have b1 : wr.cell? ⟨w.heap.size + 1, 1, none⟩ = some (.slice A' n c') := by
     rw [HBr.out.cell (p := ⟨w.heap.size + 1, 1, none⟩) (by show w.heap.size + 1 < w.heap.size + 2; omega)]
     simp [go_sem]
    have hlen := HS.out.2
    have hlen' := HS'.out.2
    by_cases hlt : k < n
    ·obtain ⟨s, hs⟩ : ∃ s, l[k]? = some s := ⟨l[k]'(by omega), List.getElem?_eq_getElem _⟩
     obtain ⟨s', hs'⟩ : ∃ s, l'[k]? = some s := ⟨l'[k]'(by omega), List.getElem?_eq_getElem _⟩
     obtain ⟨b, off, rfl, hb, f0, f1, f2, f3⟩ := (HS.out.keep (HBw.out.mono hB)).at_ hs
     obtain ⟨b', off', rfl, hb', g0, g1, g2, g3⟩ := (HS'.out.keep (HBw.out.mono hB)).at_ hs'
     have hq := neq_seg wr s s'
     have hone : l.take (k + 1) = l.take k ++ [s] := by rw [List.take_add_one, hs]; rfl
     have hone' : l'.take (k + 1) = l'.take k ++ [s'] := by rw [List.take_add_one, hs']; rfl
     have HQ := Lib.hid (fun w => neq_seg w s s')
     clear hq
     by_cases hee : s = s'
     ·subst hee
      have hq := HQ.out
      rw [decide_eq_true rfl] at hq
      have HN : Hid (l.take (k + 1) = l'.take (k + 1)) := by show _ = _; rw [hone, hone', HL.out]
      clear HQ hone hone' hs hs'
      go_wp2_with fail
      go_quiet (fail)
      go_wp2_with fail
      go_roundw
      case rel => exact ⟨k + 1, by omega, by go_num, HN, Lib.hid (below_drewN HBr.out nq)⟩
      case measure => simp [intOf]; omega
     ·have hq := HQ.out
      rw [decide_eq_false hee] at hq
      have HN : Hid (decide (x = x' ∧ l = l') = false) := by
       refine decide_eq_false fun h => hee ?_
       rw [h.2, hs'] at hs
       injection hs with hs
       exact hs.symm
      clear HQ hone hone' hs hs' hee
      go_wp2_with fail
      go_quiet (fail)
      go_wp2_with fail
      go_ret
      exact ⟨ret_bool HN.out.symm, below_drewN HBw.out nq⟩
    ·obtain rfl : k = n := by omega
     rw [List.take_of_length_le (by omega), List.take_of_length_le (by omega)] at HL
     have HN : Hid (decide (x = x' ∧ l = l') = true) := decide_eq_true ⟨HX.out, HL.out⟩
     clear HL
     go_wp2_with fail
     go_ret
     exact ⟨ret_bool HN.out.symm, HBw.out⟩
  ·have q1 : ((n : Int) != (n' : Int)) = true := by simp; omega
   have HR : Hid (decide (x = x' ∧ l = l') = false) := by
    refine decide_eq_false fun hh => hn ?_
    rw [← h.2, ← h'.2, hh.2]
   clear h h' hpa hx hn
   go_enter Tryz.func19, Tryz.ntmps19
   go_wp2_with fail
   go_ret
   exact ⟨ret_bool HR.out.symm, HB.out⟩
 ·have q0 : (x != x') = true := by simpa using hx
  have HR : Hid (decide (x = x' ∧ l = l') = false) := decide_eq_false fun hh => hx hh.1
  clear h h' hpa hx
  go_enter Tryz.func19, Tryz.ntmps19
  go_wp2_with fail
  go_ret
  exact ⟨ret_bool HR.out.symm, HB.out⟩
end Go.Proofs.YtkhemhiifhggmaaGreatDoor
namespace Go.Proofs.YtkhemhiifhggmaaGreatDoor
open Go.RowKit Go.Maps Go.Sort
set_option linter.unusedVariables false
def oneL : List Sg := [⟨2, 8, 0, 0⟩, ⟨5, 9, 6, 1⟩]
theorem sl_row {W : World} {b : Nat} {cs : Array Value} {ty : TypeId} (h : W.heap[b]? = some (.cells cs ty (0, 0))) (s m : Nat) (hm : cs.size = m * s) : Sl W (b + 1) s (some ⟨b, 0, none⟩) m cs.toList := by
 refine ⟨by rw [Array.length_toList, hm], ?_⟩
 refine fun _ => ⟨b, 0, rfl, by omega, fun j u hj => ?_⟩
 rw [Nat.zero_add, cell_of_row W b j cs ty (0, 0) h]
 simpa using hj
theorem results_cell1 {fn : Func} {p : Tmp} {ty : TypeId} (h : fn.results = #[.cell p ty]) {P : Program} (tmps : Array Value) (w : World) (g : Nat) (cs : Array Value)
  (hp : tmps.getD p undef = .pointer (some ⟨g, 0, none⟩)) (hl : (loadVar ty ⟨g, 0, none⟩).run P w = .ok (.agg cs) w) : (results fn tmps).run P w = .ok (.agg cs) w := by
 have hp' : tmps[p]?.getD undef = .pointer (some ⟨g, 0, none⟩) := by simpa using hp
 simp [results, h, hp', asAddr, hl]
def OnePost (V : World) (e : Ending) (V' : World) : Prop := ∃ A c, e = .returned (.agg #[.int .i64 7, .slice A 2 c]) ∧ SegsIn V' V'.heap.size A 2 oneL ∧ Below V.heap.size V V'
theorem one_any (V : World) : Calls Tryz.prog 36 #[] V (OnePost V) := by
 obtain ⟨w1, hw1⟩ : ∃ w1, (V.alloc (.cells #[.int .i64 0, .slice none 0 0] 24)) = w1 := ⟨_, rfl⟩
 obtain ⟨w2, hw2⟩ : ∃ w2, w1.alloc (.cells #[.int .i64 2, .int .i64 8, .int .i64 0, .int .i64 0, .int .i64 5, .int .i64 9, .int .i64 6, .int .i64 1] 61) = w2 := ⟨_, rfl⟩
 have hx1 : w1.heap[V.heap.size]? = some (.cells #[.int .i64 0, .slice none 0 0] 24 (0, 0)) := by rw [← hw1]; exact heap_alloc_new _ _
 have hs1 : w1.heap.size = V.heap.size + 1 := by rw [← hw1]; exact Array.size_push ..
 have hb1 : Below V.heap.size V w1 := by rw [← hw1]; exact bnew (brefl V) _
 have hb2 : Below w1.heap.size w1 w2 := by rw [← hw2]; exact bnew (brefl w1) _
 have hx2 : w2.heap[V.heap.size]? = some (.cells #[.int .i64 0, .slice none 0 0] 24 (0, 0)) := (hb2.block _ (by omega)).trans hx1
 have hy2 : w2.heap[w1.heap.size]? = some (.cells #[.int .i64 2, .int .i64 8, .int .i64 0, .int .i64 0, .int .i64 5, .int .i64 9, .int .i64 6, .int .i64 1] 61 (0, 0)) := by rw [← hw2]; exact heap_alloc_new _ _
 rw [hs1] at hy2
 have HX := Lib.hid hx2
 have HY := Lib.hid hy2
 have HB := Lib.hid (hb1.trans (hb2.mono (by omega)))
 obtain ⟨c0, c1, f0, f1⟩ := cells2 hx2
 clear hx1 hb1 hb2 hx2 hy2
 go_enter Tryz.func36, Tryz.ntmps36
 go_wp2_with fail
 refine bodyPost_ret (results_cell1 rfl _ _ _ _ rfl (load_point (two_set HX.out _ _) rfl)) rfl ?_
 have hne : V.heap.size + 1 ≠ V.heap.size := by omega
 have hy3 : ((w2.setCell ⟨V.heap.size, 0, none⟩ (.int .i64 7)).setCell ⟨V.heap.size, 1, none⟩ (.slice (some ⟨V.heap.size + 1, 0, none⟩) 2 2)).heap[V.heap.size + 1]? = _ := (Below.heap_setCell _ _ _ _ hne).trans ((Below.heap_setCell _ _ _ _ hne).trans HY.out)
 refine ⟨_, _, rfl, ⟨?_, rfl⟩, (HB.out.setCell (Nat.le_refl _) _).setCell (Nat.le_refl _) _⟩
 refine (sl_row hy3 4 2 rfl).more ?_
 have := (Array.getElem?_eq_some_iff.1 hy3).1
 omega
end Go.Proofs.YtkhemhiifhggmaaGreatDoor
