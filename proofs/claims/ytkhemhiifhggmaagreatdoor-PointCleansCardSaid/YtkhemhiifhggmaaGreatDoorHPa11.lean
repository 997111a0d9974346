/- PointCleans: the loops. -/
import Derived.Test.YtkhemhiifhggmaaGreatDoorHPa10
import Derived.Test.YtkhemhiifhggmaaGreatDoorHPa5
import Derived.Test.YtkhemhiifhggmaaGreatDoorHPa6
import Derived.Test.YtkhemhiifhggmaaGreatDoorHPa8
import Derived.Test.YtkhemhiifhggmaaGreatDoorHPa3
set_option maxRecDepth 100000
set_option maxHeartbeats 40000000
namespace Go.Proofs.YtkhemhiifhggmaaGreatDoor
open Go.RowKit Go.Maps Go.Sort
set_option linter.unusedVariables false
theorem size_toList (s : ByteArray) : (⟨s.data.toList.toArray⟩ : ByteArray) = s := by cases s; simp
theorem sl_str {W : World} {B n : Nat} {A : Option Addr} {l : List ByteArray} (h : Sl W B 1 A n (l.map .string)) {k : Nat} {s : ByteArray} (hs : l[k]? = some s) : ∃ b off, A = some ⟨b, off, none⟩ ∧ b < B ∧ W.cell? ⟨b, off + k, none⟩ = some (.string s) := by
 have hl : l.length = n := by have := h.1; simpa using this
 have hk : k < n := by have := (List.getElem?_eq_some_iff.1 hs).1; omega
 obtain ⟨b, off, hA, hb, hc⟩ := h.at_ hk
 exact ⟨b, off, hA, hb, hc k _ (by rw [List.getElem?_map, hs]; rfl)⟩
theorem cleans_a {H : Type} (w W0 : World) (p : Nat) (D0 : DS H) (HO0 : Hid (Own w W0 p D0)) (HV0 : Hid (∃ f g L, DV D0 f (fun _ => none) g L ∧ Ar D0 (-1) 0 ∧ Nmd f g)) (HS0 : Hid (D0.small 0)) (HG0 : Hid (D0.good 0))
  (An : Option Addr) (nn cn : Nat) (xs : List ByteArray) (hnn : nn ≤ 60) (HX : Hid (Sl w w.heap.size 1 An nn (xs.map .string))) (HXS : Hid (∀ s ∈ xs, s.size ≤ 140737488355328))
  (c1 c2 c3 c4 c5 c6 c9 c10 c11 c12 c13 c14 c15 c16 c17 c18 c19 c20 c21 c22 c23 c24 c25 c26 c27 c28 c57 c58 c59 c60 c61 c62 c63 c64 c65 c66 c67 c68 c69 c70 c71 c72 c73 c74 c75 c76 c77 c78 c79 c80 c81 c82 c83 c84 c85 c86 c87 c88 c89 c90 c91 c92 c93 c94 c95 c96 c97 c98 c99 c100 c101 c102 c103 c104 c105 c106 c107 c108 c109 c110 c111 c112 c113 c114 c115 c116 c117 c118 c119 c120 c121 c122 c123 c124 c125 c126 c127 c128 c129 c130 c131 c132 c133 c134 c135 u29 u30 u31 u32 u33 u34 u35 u36 u37 u38 u39 u40 u41 u42 u43 u44 u45 u46 u47 u48 u49 u50 u51 u52 u53 u54 u55 u56 : Value) (Q0 : Exit → Act → World → Prop) (hQ0 : ∀ c (a a' : Act) w, a.defers = a'.defers → Q0 (.panic c) a w → Q0 (.panic c) a' w)
  (hexit : ∀ (V : World) (D : DS H) (x8 u29 u30 u31 u32 u33 u34 u35 u36 u37 u38 u39 u40 u41 u42 u43 u44 u45 u46 u47 u48 u49 u50 u51 u52 u53 u54 u55 u56 : Value), Hid (Own w V p D) → Hid (∃ f g L, DV D f (fun _ => none) g L ∧ Ar D (-1) 0 ∧ Nmd f g) → Hid (D.small 180) → Hid (D.good 8444249301319680) → Q0 (.exit 0) ⟨List.toArray (.slice An nn cn :: c1 :: c2 :: c3 :: c4 :: c5 :: c6 :: .pointer (some ⟨p, 0, none⟩) :: x8 :: c9 :: c10 :: c11 :: c12 :: c13 :: c14 :: c15 :: c16 :: c17 :: c18 :: c19 :: c20 :: c21 :: c22 :: c23 :: c24 :: c25 :: c26 :: c27 :: c28 :: u29 :: u30 :: u31 :: u32 :: u33 :: u34 :: u35 :: u36 :: u37 :: u38 :: u39 :: u40 :: u41 :: u42 :: u43 :: u44 :: u45 :: u46 :: u47 :: u48 :: u49 :: u50 :: u51 :: u52 :: u53 :: u54 :: u55 :: u56 :: c57 :: c58 :: c59 :: c60 :: c61 :: c62 :: c63 :: c64 :: c65 :: c66 :: c67 :: c68 :: c69 :: c70 :: c71 :: c72 :: c73 :: c74 :: c75 :: c76 :: c77 :: c78 :: c79 :: c80 :: c81 :: c82 :: c83 :: c84 :: c85 :: c86 :: c87 :: c88 :: c89 :: c90 :: c91 :: c92 :: c93 :: c94 :: c95 :: c96 :: c97 :: c98 :: c99 :: c100 :: c101 :: c102 :: c103 :: c104 :: c105 :: c106 :: c107 :: c108 :: c109 :: c110 :: c111 :: c112 :: c113 :: c114 :: c115 :: c116 :: c117 :: c118 :: c119 :: c120 :: c121 :: c122 :: c123 :: c124 :: c125 :: c126 :: c127 :: c128 :: c129 :: c130 :: c131 :: c132 :: c133 :: c134 :: c135 :: []), []⟩ V) :
  Code.wp Tryz.prog (.loop (loopOf Tryz.f6 0)) Q0 ⟨List.toArray (.slice An nn cn :: c1 :: c2 :: c3 :: c4 :: c5 :: c6 :: .pointer (some ⟨p, 0, none⟩) :: .int .i64 (0 : Int) :: c9 :: c10 :: c11 :: c12 :: c13 :: c14 :: c15 :: c16 :: c17 :: c18 :: c19 :: c20 :: c21 :: c22 :: c23 :: c24 :: c25 :: c26 :: c27 :: c28 :: u29 :: u30 :: u31 :: u32 :: u33 :: u34 :: u35 :: u36 :: u37 :: u38 :: u39 :: u40 :: u41 :: u42 :: u43 :: u44 :: u45 :: u46 :: u47 :: u48 :: u49 :: u50 :: u51 :: u52 :: u53 :: u54 :: u55 :: u56 :: c57 :: c58 :: c59 :: c60 :: c61 :: c62 :: c63 :: c64 :: c65 :: c66 :: c67 :: c68 :: c69 :: c70 :: c71 :: c72 :: c73 :: c74 :: c75 :: c76 :: c77 :: c78 :: c79 :: c80 :: c81 :: c82 :: c83 :: c84 :: c85 :: c86 :: c87 :: c88 :: c89 :: c90 :: c91 :: c92 :: c93 :: c94 :: c95 :: c96 :: c97 :: c98 :: c99 :: c100 :: c101 :: c102 :: c103 :: c104 :: c105 :: c106 :: c107 :: c108 :: c109 :: c110 :: c111 :: c112 :: c113 :: c114 :: c115 :: c116 :: c117 :: c118 :: c119 :: c120 :: c121 :: c122 :: c123 :: c124 :: c125 :: c126 :: c127 :: c128 :: c129 :: c130 :: c131 :: c132 :: c133 :: c134 :: c135 :: []), []⟩ W0 := by
 have hlen : xs.length = nn := by have := HX.out.1; simpa using this
 conv => arg 2; arg 1; whnf
 go_loopw [8] (fun iv wr => ∃ (i : Nat) (D : DS H), i ≤ nn ∧ iv = .int .i64 (i : Int) ∧ Hid (Own w wr p D) ∧ Hid (∃ f g L, DV D f (fun _ => none) g L ∧ Ar D (-1) 0 ∧ Nmd f g) ∧ Hid (D.small (3 * i)) ∧ Hid (D.good (i * 140737488355328))) (fun iv _ => nn - (intOf iv).toNat)
 case atStart => exact ⟨0, D0, Nat.zero_le _, rfl, HO0, HV0, HS0, by rw [Nat.zero_mul]; exact HG0⟩
 case round =>
  clear HO0 HV0 HS0 HG0
  obtain ⟨i, D, hi, rfl, HO, HV, HS, HG⟩ := hrel
  by_cases hin : i < nn
  ·obtain ⟨s, hs⟩ : ∃ s, xs[i]? = some s := ⟨xs[i]'(by omega), List.getElem?_eq_getElem _⟩
   have hz := HXS.out s (List.mem_of_getElem? hs)
   have q0 : decide ((i : Int) < (nn : Int)) = true := decide_eq_true (by omega)
   obtain ⟨b, off, rfl, hb, hc⟩ := sl_str HX.out hs
   have HC : Hid (∀ V, Below w.heap.size w V → V.cell? ⟨b, off + i, none⟩ = some (.string s)) := fun V hv => (hv.cell (p := ⟨b, off + i, none⟩) hb).trans hc
   have c0 := HC.out wr HO.out.below
   have hmx : s.size ≤ maxLen := by unfold maxLen; omega
   have HP := Lib.hid (fun (V : World) (h : Own w V p D) => dk_create h (HS.out.fits (by omega)) s hmx)
   have HS1 := Lib.hid (HS.out.create s)
   have HG1 := Lib.hid (HG.out.create s)
   obtain ⟨D1, hD1⟩ : ∃ D1, (D.create s).1 = D1 := ⟨_, rfl⟩
   rw [hD1] at HP HS1 HG1
   have hfz := (HG1.out.fs (numOf D1.names s)).2.2
   have HP2 := Lib.hid (fun (V : World) (h : Own w V p D1) => dk_append h (HS1.out.fits (by omega)) s s hmx (by omega))
   have HS2 := Lib.hid (HS1.out.append s s)
   obtain ⟨D2, hD2⟩ : ∃ D2, (D1.append s s).1 = D2 := ⟨_, rfl⟩
   rw [hD2] at HP2 HS2
   have HP3 := Lib.hid (fun (V : World) (h : Own w V p D2) => dk_sync h (HS2.out.fits (by omega)) s hmx)
   have HE : Hid ((D2.sync s).1 = putN D s) := by
    show _ = _
    rw [← hD2, ← hD1]
    rfl
   rw [HE.out] at HP3
   have HVN : Hid (∃ f g L, DV (putN D s) f (fun _ => none) g L ∧ Ar (putN D s) (-1) 0 ∧ Nmd f g) := by
    obtain ⟨f, g, L, v, a, n⟩ := HV.out
    exact put_named v a n s
   have HSN := Lib.hid ((putN_small HS.out s).more (show 3 * i + 3 ≤ 3 * (i + 1) by omega))
   have HGN := Lib.hid ((putN_good HG.out s).more (show i * 140737488355328 + s.size ≤ (i + 1) * 140737488355328 by omega))
   generalize (D.create s).2 = z1 at *
   generalize (D1.append s s).2 = z2 at *
   generalize (D2.sync s).2 = z3 at *
   clear hfz hD1 hD2 hexit hs hz hc HS1 HS2 HG1 HE HV HS HG
   go_wp2_with fail
   refine (HP.out _ HO.out).mono ?_
   rintro e w1 ⟨rfl, h⟩
   have HO1 := Lib.hid h
   have c1 := HC.out w1 h.below
   clear h c0
   go_wp2_with fail
   go_region_held3 (fun w' => w'.cell? ⟨b, off + i, none⟩ = some (.string s))
    (first | assumption | (refine HC.out _ ?_; (repeat (first | exact HO2.out.below | exact HO1.out.below | refine Below.drew ?_)); done))
    (first | (go_at_call 26; refine (HP2.out _ (HO1.out.on (by repeat (first | exact brefl _ | refine Below.drew ?_)))).mono ?_; rintro e w2 ⟨rfl, h⟩; have HO2 := Lib.hid h; clear h))
   have c2 := HC.out w2 HO2.out.below
   clear c1
   go_wp2_with fail
   refine (HP3.out _ HO2.out).mono ?_
   rintro e w3 ⟨rfl, h⟩
   have HO3 := Lib.hid h
   clear h c2
   go_wp2_with fail
   go_roundw
   case rel => exact ⟨i + 1, putN D s, by omega, by go_num, HO3, HVN, HSN, HGN⟩
   case measure => simp [intOf]; omega
  ·obtain rfl : i = nn := by omega
   have q0 : decide ((i : Int) < (i : Int)) = false := decide_eq_false (by omega)
   have HS' := Lib.hid (HS.out.more (show 3 * i ≤ 180 by omega))
   have HG' := Lib.hid (HG.out.more (show i * 140737488355328 ≤ 8444249301319680 by omega))
   go_wp2_with fail
   exact hexit wr D _ _ _ _ _ _ _ _ _ _ _ _ _ _ _ _ _ _ _ _ _ _ _ _ _ _ _ _ _ HO HV HS' HG'
theorem cleans_c (W0 wc : World) (HB : Hid (Below W0.heap.size W0 wc)) (Ak : Option Addr) (nk ck : Nat) (keep : List ByteArray) (hnk : nk ≤ 8796093022208) (HKP : Hid (Sl W0 W0.heap.size 1 Ak nk (keep.map .string)))
  (Ah : Option Addr) (nh ch : Nat) (hs : List (List UInt8)) (hnh : nh ≤ 1099511627776) (HAD : Hid (Sl W0 W0.heap.size 1 Ah nh ((hs.map bs).map .string))) (i : Nat) (s : List UInt8) (his : hs[i]? = some s)
  (A : Option Addr) (m cp : Nat) (l : List (List UInt8)) (hm : m ≤ i) (HL : Hid (wc.ownsRow W0.heap.size 9 1 (.slice A m cp) m (l.map encStr)))
  (c0 c2 c3 c4 c5 c6 c7 c8 c13 c14 c15 c16 c17 c18 c19 c20 c21 c22 c23 c24 c25 c26 c27 c28 c29 c30 c31 c32 c33 c34 c35 c36 c37 c38 c39 c40 c41 c42 c43 c44 c45 c46 c47 c48 c49 c50 c51 c52 c53 c54 c55 c56 c57 c58 c59 c60 c61 c62 c63 c64 c65 c66 c67 c68 c69 c70 c93 c94 c95 c96 c97 c98 c99 c100 c101 c102 c103 c104 c105 c106 c107 c108 c109 c110 c111 c112 c113 c114 c115 c116 c117 c118 c119 c120 c121 c122 c123 c124 c125 c126 c127 c128 c129 c130 c131 c132 c133 c134 c135 u71 u72 u73 u74 u75 u76 u77 u78 u79 u80 u81 u82 u83 u84 u85 u86 u87 u88 u89 u90 u91 u92 : Value) (Q0 : Exit → Act → World → Prop) (hQ0 : ∀ c (a a' : Act) w, a.defers = a'.defers → Q0 (.panic c) a w → Q0 (.panic c) a' w)
  (hexit : ∀ (V : World) (A : Option Addr) (m cp : Nat) (x12 u71 u72 u73 u74 u75 u76 u77 u78 u79 u80 u81 u82 u83 u84 u85 u86 u87 u88 u89 u90 u91 u92 : Value), Hid (m ≤ i + 1) → Hid (Below W0.heap.size W0 V) → Hid (V.ownsRow W0.heap.size 9 1 (.slice A m cp) m ((l ++ wantN keep [s]).map encStr)) → Q0 (.exit 4) ⟨List.toArray (c0 :: .slice Ak nk ck :: c2 :: c3 :: c4 :: c5 :: c6 :: c7 :: c8 :: .slice Ah nh ch :: .slice A m cp :: .int .i64 (i : Int) :: x12 :: c13 :: c14 :: c15 :: c16 :: c17 :: c18 :: c19 :: c20 :: c21 :: c22 :: c23 :: c24 :: c25 :: c26 :: c27 :: c28 :: c29 :: c30 :: c31 :: c32 :: c33 :: c34 :: c35 :: c36 :: c37 :: c38 :: c39 :: c40 :: c41 :: c42 :: c43 :: c44 :: c45 :: c46 :: c47 :: c48 :: c49 :: c50 :: c51 :: c52 :: c53 :: c54 :: c55 :: c56 :: c57 :: c58 :: c59 :: c60 :: c61 :: c62 :: c63 :: c64 :: c65 :: c66 :: c67 :: c68 :: c69 :: c70 :: u71 :: u72 :: u73 :: u74 :: u75 :: u76 :: u77 :: u78 :: u79 :: u80 :: u81 :: u82 :: u83 :: u84 :: u85 :: u86 :: u87 :: u88 :: u89 :: u90 :: u91 :: u92 :: c93 :: c94 :: c95 :: c96 :: c97 :: c98 :: c99 :: c100 :: c101 :: c102 :: c103 :: c104 :: c105 :: c106 :: c107 :: c108 :: c109 :: c110 :: c111 :: c112 :: c113 :: c114 :: c115 :: c116 :: c117 :: c118 :: c119 :: c120 :: c121 :: c122 :: c123 :: c124 :: c125 :: c126 :: c127 :: c128 :: c129 :: c130 :: c131 :: c132 :: c133 :: c134 :: c135 :: []), []⟩ V) :
  Code.wp Tryz.prog (.loop (loopOf Tryz.f6 2)) Q0 ⟨List.toArray (c0 :: .slice Ak nk ck :: c2 :: c3 :: c4 :: c5 :: c6 :: c7 :: c8 :: .slice Ah nh ch :: .slice A m cp :: .int .i64 (i : Int) :: .int .i64 (0 : Int) :: c13 :: c14 :: c15 :: c16 :: c17 :: c18 :: c19 :: c20 :: c21 :: c22 :: c23 :: c24 :: c25 :: c26 :: c27 :: c28 :: c29 :: c30 :: c31 :: c32 :: c33 :: c34 :: c35 :: c36 :: c37 :: c38 :: c39 :: c40 :: c41 :: c42 :: c43 :: c44 :: c45 :: c46 :: c47 :: c48 :: c49 :: c50 :: c51 :: c52 :: c53 :: c54 :: c55 :: c56 :: c57 :: c58 :: c59 :: c60 :: c61 :: c62 :: c63 :: c64 :: c65 :: c66 :: c67 :: c68 :: c69 :: c70 :: u71 :: u72 :: u73 :: u74 :: u75 :: u76 :: u77 :: u78 :: u79 :: u80 :: u81 :: u82 :: u83 :: u84 :: u85 :: u86 :: u87 :: u88 :: u89 :: u90 :: u91 :: u92 :: c93 :: c94 :: c95 :: c96 :: c97 :: c98 :: c99 :: c100 :: c101 :: c102 :: c103 :: c104 :: c105 :: c106 :: c107 :: c108 :: c109 :: c110 :: c111 :: c112 :: c113 :: c114 :: c115 :: c116 :: c117 :: c118 :: c119 :: c120 :: c121 :: c122 :: c123 :: c124 :: c125 :: c126 :: c127 :: c128 :: c129 :: c130 :: c131 :: c132 :: c133 :: c134 :: c135 :: []), []⟩ wc := by
 have hlk : keep.length = nk := by have := HKP.out.1; simpa using this
 have hlh : hs.length = nh := by have := HAD.out.1; simpa using this
 have hin : i < nh := by have := (List.getElem?_eq_some_iff.1 his).1; omega
 have hcm : ∀ k, Lib.containsS (keep.take k) (bs s) = true ↔ bs s ∈ keep.take k := fun k => Lib.containsS_iff _ _
 conv => arg 2; arg 1; whnf
 go_loopw [10, 12] (fun rv iv wr => ∃ k : Nat, k ≤ nk ∧ rv = .slice A m cp ∧ iv = .int .i64 (k : Int) ∧ Hid (Below W0.heap.size W0 wr) ∧ Hid (wr.ownsRow W0.heap.size 9 1 (.slice A m cp) m (l.map encStr)) ∧ Hid (bs s ∉ keep.take k)) (fun _ iv _ => nk - (intOf iv).toNat)
 case atStart => exact ⟨0, Nat.zero_le _, rfl, rfl, HB, HL, by show _ ∉ _; simp⟩
 case round =>
  clear HB HL
  obtain ⟨k, hk, rfl, rfl, HB, HL, HN⟩ := hrel
  by_cases hkn : k < nk
  ·obtain ⟨y, hy⟩ : ∃ y, keep[k]? = some y := ⟨keep[k]'(by omega), List.getElem?_eq_getElem _⟩
   have hone : keep.take (k + 1) = keep.take k ++ [y] := by rw [List.take_add_one, hy]; rfl
   have q0 : decide ((k : Int) < (nk : Int)) = true := decide_eq_true (by omega)
   obtain ⟨bk, ok, rfl, hbk, hck⟩ := sl_str HKP.out hy
   obtain ⟨bh, oh, rfl, hbh, hch⟩ := sl_str HAD.out (k := i) (s := bs s) (by rw [List.getElem?_map, his]; rfl)
   have c0 := (HB.out.cell (p := ⟨bk, ok + k, none⟩) hbk).trans hck
   have c1 : wr.cell? ⟨bh, oh + i, none⟩ = some (.string ⟨s.toArray⟩) := (HB.out.cell (p := ⟨bh, oh + i, none⟩) hbh).trans hch
   have hyd : (⟨y.data.toList.toArray⟩ : ByteArray) = y := size_toList y
   by_cases he : y = bs s
   ·have hcon : Lib.containsS keep (bs s) = true := (Lib.containsS_iff _ _).2 (by rw [← he]; exact List.mem_of_getElem? hy)
    have HWN : Hid (wantN keep [s] = [s]) := by show _ = _; unfold wantN; rw [List.filter_cons_of_pos (by rw [hcon]), List.filter_nil]
    subst he
    have q1 : ((bs s).toList == s) = true := by simp [bs]
    have HLN : Hid ((l ++ wantN keep [s]).map encStr = l.map encStr ++ [.string ⟨s.toArray⟩]) := by show _ = _; rw [HWN.out]; simp [encStr]
    have HM : Hid (m + 1 ≤ i + 1) := Nat.succ_le_succ hm
    clear hone hy hcon hch hck hcm HN HWN
    go_wp2_with fail
    go_quiet (fail)
    have HBq := Lib.hid (below_drewN HB.out nq)
    have HLq : Hid ((wr.drewN nq).ownsRow W0.heap.size 9 1 (.slice A m cp) m (l.map encStr)) := HL
    have c1q : (wr.drewN nq).cell? ⟨bh, oh + i, none⟩ = some (.string ⟨s.toArray⟩) := c1
    generalize wr.drewN nq = W2 at *
    clear HB HL c0 c1
    go_wp2_with (at_builtin; refine wpList_pushm W0 W2 _ rfl _ _ _ rfl el_strs _ _ _ rfl HLq.out (m := 1) rfl (by simp) rfl (by simp [Value.oneCell']) (by unfold maxLen; omega) (by omega) HBq.out.size HBq.out ?_; intro v2 w2 hown9 hb9 hg9 hor9; obtain ⟨A2, p2, rfl, _⟩ := own_shape hown9; have HR2 := Lib.hid hown9; have HW2 := Lib.hid hb9; clear hown9 hb9 hg9 hor9)
    refine hexit w2 A2 (m + 1) p2 _ _ _ _ _ _ _ _ _ _ _ _ _ _ _ _ _ _ _ _ _ _ _ HM HW2 ?_
    rw [HLN.out]
    exact HR2
   ·have hne : bs s ∉ keep.take (k + 1) := by
     rw [hone, List.mem_append, List.mem_singleton]
     rintro (h | h)
     ·exact HN.out h
     ·exact he h.symm
    have HNN := Lib.hid hne
    have q1 : (y.toList == s) = false := by
     apply beq_false_of_ne
     intro e
     apply he
     have e2 : y.data.toList = s := by rw [← ByteArray.toList_eq]; exact e
     rw [← hyd, e2]
     rfl
    clear hone hy hch hck hcm HN hne he hyd
    go_wp2_with fail
    go_quiet (fail)
    go_wp2_with fail
    go_roundw
    case rel => exact ⟨k + 1, by omega, rfl, by go_num, Lib.hid (below_drewN HB.out nq), HL, HNN⟩
    case measure => simp [intOf]; omega
  ·obtain rfl : k = nk := by omega
   have q0 : decide ((k : Int) < (k : Int)) = false := decide_eq_false (by omega)
   have HWN : Hid (l ++ wantN keep [s] = l) := by
    show _ = _
    rw [List.take_of_length_le (by omega)] at HN
    have : Lib.containsS keep (bs s) = false := by
     rw [← Bool.not_eq_true, Lib.containsS_iff]
     exact HN.out
    unfold wantN
    rw [List.filter_cons_of_neg (by rw [this]; decide), List.filter_nil, List.append_nil]
   have HL' : Hid (wr.ownsRow W0.heap.size 9 1 (.slice A m cp) m ((l ++ wantN keep [s]).map encStr)) := by rw [HWN.out]; exact HL
   have HM : Hid (m ≤ i + 1) := Nat.le_succ_of_le hm
   clear HL HWN
   go_wp2_with fail
   exact hexit wr A m cp _ _ _ _ _ _ _ _ _ _ _ _ _ _ _ _ _ _ _ _ _ _ _ HM HB HL'
theorem cleans_b (W0 : World) (Ak : Option Addr) (nk ck : Nat) (keep : List ByteArray) (hnk : nk ≤ 8796093022208) (HKP : Hid (Sl W0 W0.heap.size 1 Ak nk (keep.map .string)))
  (Ah : Option Addr) (nh ch : Nat) (hs : List (List UInt8)) (hnh : nh ≤ 1099511627776) (HAD : Hid (Sl W0 W0.heap.size 1 Ah nh ((hs.map bs).map .string)))
  (c0 c2 c3 c4 c5 c6 c7 c8 c13 c14 c15 c16 c17 c18 c19 c20 c21 c22 c23 c24 c25 c26 c27 c28 c29 c30 c31 c32 c33 c34 c35 c36 c37 c38 c39 c40 c41 c42 c43 c44 c45 c46 c47 c48 c49 c50 c51 c52 c53 c54 c55 c56 c57 c58 c59 c60 c61 c62 c63 c64 c93 c94 c95 c96 c97 c98 c99 c100 c101 c102 c103 c104 c105 c106 c107 c108 c109 c110 c111 c112 c113 c114 c115 c116 c117 c118 c119 c120 c121 c122 c123 c124 c125 c126 c127 c128 c129 c130 c131 c132 c133 c134 c135 u12 u65 u66 u67 u68 u69 u70 u71 u72 u73 u74 u75 u76 u77 u78 u79 u80 u81 u82 u83 u84 u85 u86 u87 u88 u89 u90 u91 u92 : Value) (Q0 : Exit → Act → World → Prop) (hQ0 : ∀ c (a a' : Act) w, a.defers = a'.defers → Q0 (.panic c) a w → Q0 (.panic c) a' w)
  (hexit : ∀ (V : World) (A : Option Addr) (m cp : Nat) (x11 u12 u65 u66 u67 u68 u69 u70 u71 u72 u73 u74 u75 u76 u77 u78 u79 u80 u81 u82 u83 u84 u85 u86 u87 u88 u89 u90 u91 u92 : Value), Hid (m ≤ nh) → Hid (Below W0.heap.size W0 V) → Hid (V.ownsRow W0.heap.size 9 1 (.slice A m cp) m ((wantN keep hs).map encStr)) → Q0 (.exit 2) ⟨List.toArray (c0 :: .slice Ak nk ck :: c2 :: c3 :: c4 :: c5 :: c6 :: c7 :: c8 :: .slice Ah nh ch :: .slice A m cp :: x11 :: u12 :: c13 :: c14 :: c15 :: c16 :: c17 :: c18 :: c19 :: c20 :: c21 :: c22 :: c23 :: c24 :: c25 :: c26 :: c27 :: c28 :: c29 :: c30 :: c31 :: c32 :: c33 :: c34 :: c35 :: c36 :: c37 :: c38 :: c39 :: c40 :: c41 :: c42 :: c43 :: c44 :: c45 :: c46 :: c47 :: c48 :: c49 :: c50 :: c51 :: c52 :: c53 :: c54 :: c55 :: c56 :: c57 :: c58 :: c59 :: c60 :: c61 :: c62 :: c63 :: c64 :: u65 :: u66 :: u67 :: u68 :: u69 :: u70 :: u71 :: u72 :: u73 :: u74 :: u75 :: u76 :: u77 :: u78 :: u79 :: u80 :: u81 :: u82 :: u83 :: u84 :: u85 :: u86 :: u87 :: u88 :: u89 :: u90 :: u91 :: u92 :: c93 :: c94 :: c95 :: c96 :: c97 :: c98 :: c99 :: c100 :: c101 :: c102 :: c103 :: c104 :: c105 :: c106 :: c107 :: c108 :: c109 :: c110 :: c111 :: c112 :: c113 :: c114 :: c115 :: c116 :: c117 :: c118 :: c119 :: c120 :: c121 :: c122 :: c123 :: c124 :: c125 :: c126 :: c127 :: c128 :: c129 :: c130 :: c131 :: c132 :: c133 :: c134 :: c135 :: []), []⟩ V) :
  Code.wp Tryz.prog (.loop (loopOf Tryz.f6 1)) Q0 ⟨List.toArray (c0 :: .slice Ak nk ck :: c2 :: c3 :: c4 :: c5 :: c6 :: c7 :: c8 :: .slice Ah nh ch :: .slice none 0 0 :: .int .i64 (0 : Int) :: u12 :: c13 :: c14 :: c15 :: c16 :: c17 :: c18 :: c19 :: c20 :: c21 :: c22 :: c23 :: c24 :: c25 :: c26 :: c27 :: c28 :: c29 :: c30 :: c31 :: c32 :: c33 :: c34 :: c35 :: c36 :: c37 :: c38 :: c39 :: c40 :: c41 :: c42 :: c43 :: c44 :: c45 :: c46 :: c47 :: c48 :: c49 :: c50 :: c51 :: c52 :: c53 :: c54 :: c55 :: c56 :: c57 :: c58 :: c59 :: c60 :: c61 :: c62 :: c63 :: c64 :: u65 :: u66 :: u67 :: u68 :: u69 :: u70 :: u71 :: u72 :: u73 :: u74 :: u75 :: u76 :: u77 :: u78 :: u79 :: u80 :: u81 :: u82 :: u83 :: u84 :: u85 :: u86 :: u87 :: u88 :: u89 :: u90 :: u91 :: u92 :: c93 :: c94 :: c95 :: c96 :: c97 :: c98 :: c99 :: c100 :: c101 :: c102 :: c103 :: c104 :: c105 :: c106 :: c107 :: c108 :: c109 :: c110 :: c111 :: c112 :: c113 :: c114 :: c115 :: c116 :: c117 :: c118 :: c119 :: c120 :: c121 :: c122 :: c123 :: c124 :: c125 :: c126 :: c127 :: c128 :: c129 :: c130 :: c131 :: c132 :: c133 :: c134 :: c135 :: []), []⟩ W0 := by
 have hlh : hs.length = nh := by have := HAD.out.1; simpa using this
 conv => arg 2; arg 1; whnf
 go_loopw [10, 11] (fun rv iv wr => ∃ (i m cp : Nat) (A : Option Addr), i ≤ nh ∧ m ≤ i ∧ rv = .slice A m cp ∧ iv = .int .i64 (i : Int) ∧ Hid (Below W0.heap.size W0 wr) ∧ Hid (wr.ownsRow W0.heap.size 9 1 (.slice A m cp) m ((wantN keep (hs.take i)).map encStr))) (fun _ iv _ => nh - (intOf iv).toNat)
 case atStart => exact ⟨0, 0, 0, none, Nat.zero_le _, Nat.le_refl _, rfl, rfl, Lib.hid (brefl W0), ⟨by simp [wantN], .inl ⟨rfl, rfl⟩⟩⟩
 case round =>
  obtain ⟨i, m, cp, A, hi, hm, rfl, rfl, HB, HL⟩ := hrel
  by_cases hin : i < nh
  ·obtain ⟨s, hs'⟩ : ∃ s, hs[i]? = some s := ⟨hs[i]'(by omega), List.getElem?_eq_getElem _⟩
   have HONE : Hid (wantN keep (hs.take (i + 1)) = wantN keep (hs.take i) ++ wantN keep [s]) := by show _ = _; rw [List.take_add_one, hs']; unfold wantN; rw [List.filter_append]; rfl
   have q0 : decide ((i : Int) < (nh : Int)) = true := decide_eq_true (by omega)
   go_wp2_with fail
   refine cleans_c W0 wr HB Ak nk ck keep hnk HKP Ah nh ch hs hnh HAD i s hs' A m cp (wantN keep (hs.take i)) hm HL _ _ _ _ _ _ _ _ _ _ _ _ _ _ _ _ _ _ _ _ _ _ _ _ _ _ _ _ _ _ _ _ _ _ _ _ _ _ _ _ _ _ _ _ _ _ _ _ _ _ _ _ _ _ _ _ _ _ _ _ _ _ _ _ _ _ _ _ _ _ _ _ _ _ _ _ _ _ _ _ _ _ _ _ _ _ _ _ _ _ _ _ _ _ _ _ _ _ _ _ _ _ _ _ _ _ _ _ _ _ _ _ _ _ _ _ _ _ _ _ _ _ _ _ _ _ _ _ _ _ _ _ (fun c a a' w hd h => hQ0 c a a' w hd h) ?_
   clear HB HL
   intro V A m cp x12 u71 u72 u73 u74 u75 u76 u77 u78 u79 u80 u81 u82 u83 u84 u85 u86 u87 u88 u89 u90 u91 u92 HM HB HL
   rw [← HONE.out] at HL
   go_wp2_with fail
   go_roundw
   case rel => exact ⟨i + 1, m, cp, A, by omega, HM.out, rfl, by go_num, HB, HL⟩
   case measure => simp [intOf]; omega
  ·obtain rfl : i = nh := by omega
   have q0 : decide ((i : Int) < (i : Int)) = false := decide_eq_false (by omega)
   rw [List.take_of_length_le (by omega)] at HL
   have HM := Lib.hid hm
   go_wp2_with fail
   exact hexit wr A m cp _ _ _ _ _ _ _ _ _ _ _ _ _ _ _ _ _ _ _ _ _ _ _ _ _ _ _ _ _ _ HM HB HL
theorem cleans_d {H : Type} (w W0 : World) (p : Nat) (D : DS H) (HO0 : Hid (Own w W0 p D)) (A : Option Addr) (m cp : Nat) (ws : List (List UInt8)) (hm : m ≤ 1099511627776) (HAD : Hid (Sl W0 W0.heap.size 1 A m ((ws.map bs).map .string)))
  (HRD : Hid (∀ s ∈ ws, s.length ≤ 1000 ∧ readE D (bs s) = 0 ∧ readS D (bs s) = bs s))
  (c0 c1 c2 c3 c4 c5 c8 c9 c11 c12 c16 c17 c18 c19 c20 c21 c22 c23 c24 c25 c26 c27 c28 c29 c30 c31 c32 c33 c34 c35 c36 c37 c38 c39 c40 c41 c42 c43 c44 c45 c46 c47 c48 c49 c50 c51 c52 c53 c54 c55 c56 c57 c58 c59 c60 c61 c62 c63 c64 c65 c66 c67 c68 c69 c70 c71 c72 c73 c74 c75 c76 c77 c78 c79 c80 c81 c82 c83 c84 c85 c86 c87 c88 c89 c90 c91 c92 c93 c94 c95 c96 c97 c98 c99 c100 c101 c102 c103 c104 c105 c106 c107 c108 c109 c110 u6 u14 u15 u111 u112 u113 u114 u115 u116 u117 u118 u119 u120 u121 u122 u123 u124 u125 u126 u127 u128 u129 u130 u131 u132 u133 u134 u135 : Value) (Q0 : Exit → Act → World → Prop) (hQ0 : ∀ c (a a' : Act) w, a.defers = a'.defers → Q0 (.panic c) a w → Q0 (.panic c) a' w)
  (hexit : ∀ (V : World) (x13 u6 u14 u15 u111 u112 u113 u114 u115 u116 u117 u118 u119 u120 u121 u122 u123 u124 u125 u126 u127 u128 u129 u130 u131 u132 u133 u134 u135 : Value), Hid (Below w.heap.size w V) → Q0 (.exit 6) ⟨List.toArray (c0 :: c1 :: c2 :: c3 :: c4 :: c5 :: u6 :: .pointer (some ⟨p, 0, none⟩) :: c8 :: c9 :: .slice A m cp :: c11 :: c12 :: x13 :: u14 :: u15 :: c16 :: c17 :: c18 :: c19 :: c20 :: c21 :: c22 :: c23 :: c24 :: c25 :: c26 :: c27 :: c28 :: c29 :: c30 :: c31 :: c32 :: c33 :: c34 :: c35 :: c36 :: c37 :: c38 :: c39 :: c40 :: c41 :: c42 :: c43 :: c44 :: c45 :: c46 :: c47 :: c48 :: c49 :: c50 :: c51 :: c52 :: c53 :: c54 :: c55 :: c56 :: c57 :: c58 :: c59 :: c60 :: c61 :: c62 :: c63 :: c64 :: c65 :: c66 :: c67 :: c68 :: c69 :: c70 :: c71 :: c72 :: c73 :: c74 :: c75 :: c76 :: c77 :: c78 :: c79 :: c80 :: c81 :: c82 :: c83 :: c84 :: c85 :: c86 :: c87 :: c88 :: c89 :: c90 :: c91 :: c92 :: c93 :: c94 :: c95 :: c96 :: c97 :: c98 :: c99 :: c100 :: c101 :: c102 :: c103 :: c104 :: c105 :: c106 :: c107 :: c108 :: c109 :: c110 :: u111 :: u112 :: u113 :: u114 :: u115 :: u116 :: u117 :: u118 :: u119 :: u120 :: u121 :: u122 :: u123 :: u124 :: u125 :: u126 :: u127 :: u128 :: u129 :: u130 :: u131 :: u132 :: u133 :: u134 :: u135 :: []), []⟩ V) :
  Code.wp Tryz.prog (.loop (loopOf Tryz.f6 3)) Q0 ⟨List.toArray (c0 :: c1 :: c2 :: c3 :: c4 :: c5 :: u6 :: .pointer (some ⟨p, 0, none⟩) :: c8 :: c9 :: .slice A m cp :: c11 :: c12 :: .int .i64 (0 : Int) :: u14 :: u15 :: c16 :: c17 :: c18 :: c19 :: c20 :: c21 :: c22 :: c23 :: c24 :: c25 :: c26 :: c27 :: c28 :: c29 :: c30 :: c31 :: c32 :: c33 :: c34 :: c35 :: c36 :: c37 :: c38 :: c39 :: c40 :: c41 :: c42 :: c43 :: c44 :: c45 :: c46 :: c47 :: c48 :: c49 :: c50 :: c51 :: c52 :: c53 :: c54 :: c55 :: c56 :: c57 :: c58 :: c59 :: c60 :: c61 :: c62 :: c63 :: c64 :: c65 :: c66 :: c67 :: c68 :: c69 :: c70 :: c71 :: c72 :: c73 :: c74 :: c75 :: c76 :: c77 :: c78 :: c79 :: c80 :: c81 :: c82 :: c83 :: c84 :: c85 :: c86 :: c87 :: c88 :: c89 :: c90 :: c91 :: c92 :: c93 :: c94 :: c95 :: c96 :: c97 :: c98 :: c99 :: c100 :: c101 :: c102 :: c103 :: c104 :: c105 :: c106 :: c107 :: c108 :: c109 :: c110 :: u111 :: u112 :: u113 :: u114 :: u115 :: u116 :: u117 :: u118 :: u119 :: u120 :: u121 :: u122 :: u123 :: u124 :: u125 :: u126 :: u127 :: u128 :: u129 :: u130 :: u131 :: u132 :: u133 :: u134 :: u135 :: []), []⟩ W0 := by
 have hlh : ws.length = m := by have := HAD.out.1; simpa using this
 conv => arg 2; arg 1; whnf
 go_loopw [13] (fun iv wr => ∃ i : Nat, i ≤ m ∧ iv = .int .i64 (i : Int) ∧ Hid (Own w wr p D) ∧ Hid (Below W0.heap.size W0 wr)) (fun iv _ => m - (intOf iv).toNat)
 case atStart => exact ⟨0, Nat.zero_le _, rfl, HO0, Lib.hid (brefl W0)⟩
 case round =>
  clear HO0
  obtain ⟨i, hi, rfl, HO, HB⟩ := hrel
  by_cases hin : i < m
  ·obtain ⟨s, hs⟩ : ∃ s, ws[i]? = some s := ⟨ws[i]'(by omega), List.getElem?_eq_getElem _⟩
   have q0 : decide ((i : Int) < (m : Int)) = true := decide_eq_true (by omega)
   obtain ⟨b, off, rfl, hb, hc⟩ := sl_str HAD.out (k := i) (s := bs s) (by rw [List.getElem?_map, hs]; rfl)
   have HC : Hid (∀ V, Below W0.heap.size W0 V → V.cell? ⟨b, off + i, none⟩ = some (.string ⟨s.toArray⟩)) := fun V hv => (hv.cell (p := ⟨b, off + i, none⟩) hb).trans hc
   have c0 := HC.out wr HB.out
   obtain ⟨h1, h2, h3⟩ := HRD.out s (List.mem_of_getElem? hs)
   have HR := Lib.hid (dr_read HO.out (bs s) (by rw [bs_size]; unfold maxLen; omega))
   rw [h2, h3] at HR
   have HR : Hid (Calls Tryz.prog 31 #[.pointer (some ⟨p, 0, none⟩), .string ⟨s.toArray⟩] wr fun e w' => e = .returned (.tuple #[.string ⟨s.toArray⟩, .int .i64 0]) ∧ Own w w' p D ∧ Below wr.heap.size wr w') := HR
   have q1 : (s == s) = true := by simp
   have q2 : ((⟨s.toArray⟩ : ByteArray).toList == s) = true := by simp
   clear hs hc h2 h3
   go_wp2_with fail
   refine HR.out.mono ?_
   rintro e w2 ⟨rfl, ho2, hb2⟩
   have HO2 := Lib.hid ho2
   have HB2 := Lib.hid (HB.out.trans (hb2.mono HB.out.size))
   have c2 := HC.out w2 HB2.out
   clear ho2 hb2 c0 HR
   go_wp2_with fail
   go_roundw
   case rel => exact ⟨i + 1, by omega, by go_num, HO2, HB2⟩
   case measure => simp [intOf]; omega
  ·obtain rfl : i = m := by omega
   have q0 : decide ((i : Int) < (i : Int)) = false := decide_eq_false (by omega)
   have HX := Lib.hid HO.out.below
   go_wp2_with fail
   first
    | exact HX
    | exact hexit wr _ _ _ _ _ _ _ _ _ _ _ _ _ _ _ _ _ _ _ _ _ _ _ _ _ _ _ _ _ HX
end Go.Proofs.YtkhemhiifhggmaaGreatDoor
namespace Go.Proofs.YtkhemhiifhggmaaGreatDoor
open Go.RowKit Go.Maps Go.Sort
set_option linter.unusedVariables false
theorem files_any (w : World) (hT : Tab w) (B : Nat) (hB : B ≤ w.heap.size) (nn nx : Int) (h63 : -9223372036854775808 ≤ nn ∧ nn ≤ 9223372036854775807) (A : Option Addr) (n c : Nat) (l : List Sg) (h : SegsIn w B A n l) (hn : n ≤ 1099511627776) (hz : ∀ s ∈ l, (0 ≤ s.id ∧ s.id ≤ 999999999) ∧ 0 ≤ s.gen ∧ s.gen ≤ 999999999) :
  Calls Tryz.prog 15 #[.int .i64 nn, .agg #[.int .i64 nx, .slice A n c]] w fun e w' => ∃ A' c', e = .returned (.slice A' (filesZ nn l).length c') ∧ w'.ownsRow w.heap.size 9 1 (.slice A' (filesZ nn l).length c') (filesZ nn l).length ((filesZ nn l).map encStr) ∧ Below w.heap.size w w' := by
 have hpa := bnew (brefl w) (.cells #[.int .i64 nx, .slice A n c] 24)
 have HPA := Lib.hid hpa
 have HG := Lib.hid h
 have HZ := Lib.hid hz
 have HNM := Lib.hid (pname_any _ (hT.below hpa) 112 nn h63)
 clear h hz hpa
 go_enter Tryz.func15, Tryz.ntmps15
 go_wp2_with fail
 refine HNM.out.mono ?_
 rintro e w1 ⟨rfl, hb1⟩
 have HB1 := Lib.hid (HPA.out.trans (hb1.mono HPA.out.size))
 have hbx := (hb1.block _ (Array.getElem?_eq_some_iff.1 (heap_alloc_new w (.cells #[.int .i64 nx, .slice A n c] 24))).1).trans (heap_alloc_new w (.cells #[.int .i64 nx, .slice A n c] 24))
 have hb2 := bnew (brefl w1) (.cells #[.string ⟨(nameP 112 nn).toArray⟩] 9)
 have hbx2 := (hb2.block _ (Array.getElem?_eq_some_iff.1 hbx).1).trans hbx
 have c1 := cell_of_row _ w.heap.size 1 _ _ (0, 0) hbx2
 simp at c1
 have HB2 := Lib.hid (HB1.out.trans (hb2.mono HB1.out.size))
 have HR2 := Lib.hid (own_new w1 #[.string ⟨(nameP 112 nn).toArray⟩] 9 1 1 rfl (by unfold maxLen; omega) rfl (base := w.heap.size) HB1.out.size)
 clear hbx hb2 hbx2 hb1
 go_wp2_with fail
 have HTw := Lib.hid (hT)
 refine files_o w _ HB2 hT B hB nn A n c l HG hn HZ _ _ _ HR2 _ _ _ _ _ _ _ _ _ _ _ _ _ _ _ _ _ _ _ _ _ _ _ _ _ _ _ _ _ _ _ _ _ _ _ (fun c a a' w hd h => by cases a; cases a'; cases hd; exact h) ?_
 intro V Av m cp x14 u7 u15 u16 u17 u18 u19 u20 u21 u22 u23 u24 u25 u26 u27 u28 u29 u30 u31 u32 u33 hm hbv hown
 have HMN : Hid ((filesR nn l).length = m) := by have := hown.out.1; simp at this; exact Lib.hid this
 have h0 : 0 < m := by rw [← HMN.out]; unfold filesR; exact Nat.succ_pos _
 have HSO := Lib.hid (sortS_own hown.out (by have := hm.out; omega))
 go_wp2_with fail
 refine HSO.out.mono ?_
 rintro e w4 ⟨rfl, hown4, hg4⟩
 have HB4 := Lib.hid (hbv.out.grown hg4 hbv.out.size (fun k hk => (hown.out.lt k hk).1))
 have HCO := Lib.hid (compactS_own hown4 (by have := hm.out; omega) h0)
 have HO4 := Lib.hid hown4
 clear hown4 hg4
 go_wp2_with fail
 refine HCO.out.mono ?_
 rintro e w5 ⟨rfl, hown5, hg5⟩
 have HB5 := Lib.hid (HB4.out.grown hg5 HB4.out.size (fun k hk => (HO4.out.lt k hk).1))
 have HO5 := Lib.hid hown5
 clear hown5 hg5
 go_wp2_with fail
 go_ret
 exact ⟨Av, cp, rfl, HO5.out, HB5.out⟩
end Go.Proofs.YtkhemhiifhggmaaGreatDoor
namespace Go.Proofs.YtkhemhiifhggmaaGreatDoor
open Go.RowKit Go.Maps
set_option linter.unusedVariables false
theorem neq_seg (w : World) (s t : Sg) : (binOp .neq 61 (.agg #[.int .i64 s.id, .int .i64 s.docs, .int .i64 s.gen, .int .i64 s.gone]) (.agg #[.int .i64 t.id, .int .i64 t.docs, .int .i64 t.gen, .int .i64 t.gone])).run Tryz.prog w = .ok (.bool (!decide (s = t))) w := by
 rw [run_neq_struct, run_equalIn_agg _ _ _ _ _ (by kernel_rfl) (by kernel_rfl)]
 simp [go_sem, Program.fieldsOf, Tryz.underlying61]
 obtain ⟨a, b, c, d⟩ := s
 obtain ⟨a', b', c', d'⟩ := t
 by_cases h1 : a = a' <;> by_cases h2 : b = b' <;> by_cases h3 : c = c' <;> by_cases h4 : d = d' <;> simp [h1, h2, h3, h4]
theorem gu_seg : Tryz.prog.eqGuardType Tryz.prog.depth 61 = false := by kernel_rfl
theorem psame_any (w : World) (B : Nat) (hB : B ≤ w.heap.size) (A A' : Option Addr) (n c n' c' : Nat) (l l' : List Sg) (h : SegsIn w B A n l) (h' : SegsIn w B A' n' l') (hn0 : n ≤ 4398046511104) (hn0' : n' ≤ 4398046511104) (x x' : Int) :
  Calls Tryz.prog 19 #[.agg #[.int .i64 x, .slice A n c], .agg #[.int .i64 x', .slice A' n' c']] w fun e w' => e = .returned (.bool (decide (x = x' ∧ l = l'))) ∧ Below w.heap.size w w' := by
 have hgu := gu_seg
 have hpa := bnew (bnew (brefl w) (.cells #[.int .i64 x, .slice A n c] 24)) (.cells #[.int .i64 x', .slice A' n' c'] 24)
 have HB := Lib.hid hpa
 by_cases hx : x = x'
 ·have q0 : (x != x') = false := by simpa using hx
  by_cases hn : n = n'
  ·have q1 : ((n : Int) != (n' : Int)) = false := by simp; omega
   have HS := Lib.hid h
   have HS' := Lib.hid h'
   have HX := Lib.hid hx
   subst hn
   clear h h' hpa hx
   go_enter Tryz.func19, Tryz.ntmps19
   go_wp2_with fail
   have HW := Lib.hid (bnew (bnew (brefl w) (.cells #[.int .i64 x, .slice A n c] 24)) (.cells #[.int .i64 x', .slice A' n c'] 24))
   go_loopw [5] (fun i wr => ∃ k : Nat, k ≤ n ∧ i = .int .i64 k ∧ Hid (l.take k = l'.take k) ∧ Hid (Below (w.heap.size + 2) ((w.alloc (.cells #[.int .i64 x, .slice A n c] 24)).alloc (.cells #[.int .i64 x', .slice A' n c'] 24)) wr)) (fun i _ => n - (intOf i).toNat)
   case atStart => exact ⟨0, Nat.zero_le _, rfl, rfl, Lib.hid ((brefl _).mono (by show w.heap.size + 2 ≤ ((w.heap.push _).push _).size; rw [Array.size_push, Array.size_push]; exact Nat.le_refl _))⟩
   case round =>
    obtain ⟨k, hk, rfl, HL, HBr⟩ := hrel
    have HBw := Lib.hid (HB.out.trans (HBr.out.mono (Nat.le_add_right _ _)))
    have b0 : wr.cell? ⟨w.heap.size, 1, none⟩ = some (.slice A n c) := by
     rw [HBr.out.cell (p := ⟨w.heap.size, 1, none⟩) (by show w.heap.size < w.heap.size + 2; omega)]
     simp [go_sem]
    have b1 : wr.cell? ⟨w.heap.size + 1, 1, none⟩ = some (.slice A' n c') := by
     rw [HBr.out.cell (p := ⟨w.heap.size + 1, 1, none⟩) (by show w.heap.size + 1 < w.heap.size + 2; omega)]
     simp [go_sem]
    have hlen := HS.out.2
    have hlen' := HS'.out.2
    by_cases hlt : k < n
    ·obtain ⟨s, hs⟩ : ∃ s, l[k]? = some s := ⟨l[k]'(by omega), List.getElem?_eq_getElem _⟩
     obtain ⟨s', hs'⟩ : ∃ s, l'[k]? = some s := ⟨l'[k]'(by omega), List.getElem?_eq_getElem _⟩
     obtain ⟨b, off, rfl, hb, f0, f1, f2, f3⟩ := (HS.out.keep (HBw.out.mono hB)).at_ hs
     obtain ⟨b', off', rfl, hb', g0, g1, g2, g3⟩ := (HS'.out.keep (HBw.out.mono hB)).at_ hs'
     have hq := neq_seg wr s s'
     have hone : l.take (k + 1) = l.take k ++ [s] := by rw [List.take_add_one, hs]; rfl
     have hone' : l'.take (k + 1) = l'.take k ++ [s'] := by rw [List.take_add_one, hs']; rfl
     have HQ := Lib.hid (fun w => neq_seg w s s')
     clear hq
     by_cases hee : s = s'
     ·subst hee
      have hq := HQ.out
      rw [decide_eq_true rfl] at hq
      have HN : Hid (l.take (k + 1) = l'.take (k + 1)) := by show _ = _; rw [hone, hone', HL.out]
      clear HQ hone hone' hs hs'
      go_wp2_with fail
      go_quiet (fail)
      go_wp2_with fail
      go_roundw
      case rel => exact ⟨k + 1, by omega, by go_num, HN, Lib.hid (below_drewN HBr.out nq)⟩
      case measure => simp [intOf]; omega
     ·have hq := HQ.out
      rw [decide_eq_false hee] at hq
      have HN : Hid (decide (x = x' ∧ l = l') = false) := by
       refine decide_eq_false fun h => hee ?_
       rw [h.2, hs'] at hs
       injection hs with hs
       exact hs.symm
      clear HQ hone hone' hs hs' hee
      go_wp2_with fail
      go_quiet (fail)
      go_wp2_with fail
      go_ret
      exact ⟨ret_bool HN.out.symm, below_drewN HBw.out nq⟩
    ·obtain rfl : k = n := by omega
     rw [List.take_of_length_le (by omega), List.take_of_length_le (by omega)] at HL
     have HN : Hid (decide (x = x' ∧ l = l') = true) := decide_eq_true ⟨HX.out, HL.out⟩
     clear HL
     go_wp2_with fail
     go_ret
     exact ⟨ret_bool HN.out.symm, HBw.out⟩
  ·have q1 : ((n : Int) != (n' : Int)) = true := by simp; omega
   have HR : Hid (decide (x = x' ∧ l = l') = false) := by
    refine decide_eq_false fun hh => hn ?_
    rw [← h.2, ← h'.2, hh.2]
   clear h h' hpa hx hn
   go_enter Tryz.func19, Tryz.ntmps19
   go_wp2_with fail
   go_ret
   exact ⟨ret_bool HR.out.symm, HB.out⟩
 ·have q0 : (x != x') = true := by simpa using hx
  have HR : Hid (decide (x = x' ∧ l = l') = false) := decide_eq_false fun hh => hx hh.1
  clear h h' hpa hx
  go_enter Tryz.func19, Tryz.ntmps19
  go_wp2_with fail
  go_ret
  exact ⟨ret_bool HR.out.symm, HB.out⟩
end Go.Proofs.YtkhemhiifhggmaaGreatDoor
namespace Go.Proofs.YtkhemhiifhggmaaGreatDoor
open Go.RowKit Go.Maps Go.Sort
set_option linter.unusedVariables false
def oneL : List Sg := [⟨2, 8, 0, 0⟩, ⟨5, 9, 6, 1⟩]
theorem sl_row {W : World} {b : Nat} {cs : Array Value} {ty : TypeId} (h : W.heap[b]? = some (.cells cs ty (0, 0))) (s m : Nat) (hm : cs.size = m * s) : Sl W (b + 1) s (some ⟨b, 0, none⟩) m cs.toList := by
 refine ⟨by rw [Array.length_toList, hm], ?_⟩
 refine fun _ => ⟨b, 0, rfl, by omega, fun j u hj => ?_⟩
 rw [Nat.zero_add, cell_of_row W b j cs ty (0, 0) h]
 simpa using hj
theorem results_cell1 {fn : Func} {p : Tmp} {ty : TypeId} (h : fn.results = #[.cell p ty]) {P : Program} (tmps : Array Value) (w : World) (g : Nat) (cs : Array Value)
  (hp : tmps.getD p undef = .pointer (some ⟨g, 0, none⟩)) (hl : (loadVar ty ⟨g, 0, none⟩).run P w = .ok (.agg cs) w) : (results fn tmps).run P w = .ok (.agg cs) w := by
 have hp' : tmps[p]?.getD undef = .pointer (some ⟨g, 0, none⟩) := by simpa using hp
 simp [results, h, hp', asAddr, hl]
def OnePost (V : World) (e : Ending) (V' : World) : Prop := ∃ A c, e = .returned (.agg #[.int .i64 7, .slice A 2 c]) ∧ SegsIn V' V'.heap.size A 2 oneL ∧ Below V.heap.size V V'
theorem one_any (V : World) : Calls Tryz.prog 36 #[] V (OnePost V) := by
 obtain ⟨w1, hw1⟩ : ∃ w1, (V.alloc (.cells #[.int .i64 0, .slice none 0 0] 24)) = w1 := ⟨_, rfl⟩
 obtain ⟨w2, hw2⟩ : ∃ w2, w1.alloc (.cells #[.int .i64 2, .int .i64 8, .int .i64 0, .int .i64 0, .int .i64 5, .int .i64 9, .int .i64 6, .int .i64 1] 61) = w2 := ⟨_, rfl⟩
 have hx1 : w1.heap[V.heap.size]? = some (.cells #[.int .i64 0, .slice none 0 0] 24 (0, 0)) := by rw [← hw1]; exact heap_alloc_new _ _
 have hs1 : w1.heap.size = V.heap.size + 1 := by rw [← hw1]; exact Array.size_push ..
 have hb1 : Below V.heap.size V w1 := by rw [← hw1]; exact bnew (brefl V) _
 have hb2 : Below w1.heap.size w1 w2 := by rw [← hw2]; exact bnew (brefl w1) _
 have hx2 : w2.heap[V.heap.size]? = some (.cells #[.int .i64 0, .slice none 0 0] 24 (0, 0)) := (hb2.block _ (by omega)).trans hx1
 have hy2 : w2.heap[w1.heap.size]? = some (.cells #[.int .i64 2, .int .i64 8, .int .i64 0, .int .i64 0, .int .i64 5, .int .i64 9, .int .i64 6, .int .i64 1] 61 (0, 0)) := by rw [← hw2]; exact heap_alloc_new _ _
 rw [hs1] at hy2
 have HX := Lib.hid hx2
 have HY := Lib.hid hy2
 have HB := Lib.hid (hb1.trans (hb2.mono (by omega)))
 obtain ⟨c0, c1, f0, f1⟩ := cells2 hx2
 clear hx1 hb1 hb2 hx2 hy2
 go_enter Tryz.func36, Tryz.ntmps36
 go_wp2_with fail
 refine bodyPost_ret (results_cell1 rfl _ _ _ _ rfl (load_point (two_set HX.out _ _) rfl)) rfl ?_
 have hne : V.heap.size + 1 ≠ V.heap.size := by omega
 have hy3 : ((w2.setCell ⟨V.heap.size, 0, none⟩ (.int .i64 7)).setCell ⟨V.heap.size, 1, none⟩ (.slice (some ⟨V.heap.size + 1, 0, none⟩) 2 2)).heap[V.heap.size + 1]? = _ := (Below.heap_setCell _ _ _ _ hne).trans ((Below.heap_setCell _ _ _ _ hne).trans HY.out)
 refine ⟨_, _, rfl, ⟨?_, rfl⟩, (HB.out.setCell (Nat.le_refl _) _).setCell (Nat.le_refl _) _⟩
 refine (sl_row hy3 4 2 rfl).more ?_
 have := (Array.getElem?_eq_some_iff.1 hy3).1
 omega
end Go.Proofs.YtkhemhiifhggmaaGreatDoor
namespace Go.Proofs.YtkhemhiifhggmaaGreatDoor
open Go.RowKit Go.Maps Go.Sort
set_option linter.unusedVariables false
theorem one_ok : PtOk 7 oneL := by decide
theorem ones_z : ∀ s ∈ oneL, (0 ≤ s.id ∧ s.id ≤ 999999999) ∧ 0 ≤ s.gen ∧ s.gen ≤ 999999999 := by decide
def DA : DS Unit := (saveD (DS.new Unit) 3 7 oneL).1
theorem da_keys {ss : List (List UInt8)} (hK : StrK DA.names) (hss : ss.Perm (strKeys DA.names)) (ht : ∃ n, n ≤ DA.cap ∧ (strKeys DA.names).Nodup) : sortedN ss = [nameP 112 3] := by
 obtain ⟨h1, h2, f, g, L, v, hf, hg, hon⟩ := save_first Unit (n := 3) (nx := 7) (l := oneL) (by decide) one_ok
 have v : DV DA f f g L := v
 have hmem : ∀ s, s ∈ strKeys DA.names ↔ s = nameP 112 3 := fun s => by
  rw [hK.mem, (v.n.2 _).1]
  constructor
  ·intro h
   obtain ⟨k, hk⟩ := Option.isSome_iff_exists.1 h
   exact bs_inj (hon _ _ hk)
  ·intro e
   rw [e, hf]
   rfl
 obtain ⟨_, _, hnd⟩ := ht
 have hl : strKeys DA.names = [nameP 112 3] := by
  generalize strKeys DA.names = l at hmem hnd
  match l, hmem, hnd with
  | [], hmem, _ => exact absurd ((hmem _).2 rfl) List.not_mem_nil
  | [a], hmem, _ => rw [(hmem a).1 (List.mem_cons_self ..)]
  |
   a :: b :: r, hmem, hnd =>
   have h1 := (hmem a).1 (by simp)
   have h2 := (hmem b).1 (by simp)
   rw [h1, h2] at hnd
   simp at hnd
 rw [hl] at hss
 rw [hss.eq_singleton]
 simp [sortedN]
theorem own_nodup {H : Type} {w W : World} {p : Nat} {D : DS H} (h : Own w W p D) : (strKeys D.names).Nodup := by
 have hK := own_strk h
 obtain ⟨F, _, hd, _⟩ := h
 obtain ⟨n, _, hm⟩ := hd.nam
 obtain ⟨es, e, hp⟩ := hm.tidy lawS
 obtain ⟨es', e', hk⟩ := hK
 rw [e] at e' ⊢
 injection e' with e'
 subst e'
 show (es.map fun p => strOf p.1).Nodup
 refine List.pairwise_map.2 (List.Pairwise.imp_of_mem ?_ hp)
 intro a b ha hb hne e
 obtain ⟨x, hx⟩ := hk a ha
 obtain ⟨y, hy⟩ := hk b hb
 rw [hx, hy] at e hne
 have : x = y := e
 exact hne (by rw [this])
theorem filesZ_lt (n : Int) (l : List Sg) : (filesZ n l).Pairwise (fun x y => x < y) ∧ ∀ x, x ∈ filesZ n l ↔ x ∈ filesR n l := by
 obtain ⟨h1, h2⟩ := compactS_sorted (sortS_le (filesR n l))
 exact ⟨h1, fun x => (h2 x).trans (sortS_mem _ _)⟩
theorem one_raw : filesR 3 oneL = [[112, 95, 48, 48, 48, 48, 48, 48, 48, 48, 51], [115, 95, 48, 48, 48, 48, 48, 48, 48, 48, 50], [115, 95, 48, 48, 48, 48, 48, 48, 48, 48, 53], [100, 95, 48, 48, 48, 48, 48, 48, 48, 48, 54]] := by decide +kernel
theorem one_files : filesZ 3 oneL = [[100, 95, 48, 48, 48, 48, 48, 48, 48, 48, 54], [112, 95, 48, 48, 48, 48, 48, 48, 48, 48, 51], [115, 95, 48, 48, 48, 48, 48, 48, 48, 48, 50], [115, 95, 48, 48, 48, 48, 48, 48, 48, 48, 53]] := by
 obtain ⟨h1, h2⟩ := filesZ_lt 3 oneL
 refine slt_ext h1 (by decide +kernel) fun x => ?_
 rw [h2, one_raw]
 simp only [List.mem_cons, List.not_mem_nil, or_false]
 constructor
 ·rintro (h | h | h | h)
  ·exact .inr (.inl h)
  ·exact .inr (.inr (.inl h))
  ·exact .inr (.inr (.inr h))
  ·exact .inl h
 ·rintro (h | h | h | h)
  ·exact .inr (.inr (.inr h))
  ·exact .inl h
  ·exact .inr (.inl h)
  ·exact .inr (.inr (.inl h))
theorem one_name : bs (nameP 112 3) = ⟨#[112, 95, 48, 48, 48, 48, 48, 48, 48, 48, 51]⟩ := by decide +kernel
theorem le_al (W : World) (o : Obj) : W.heap.size + 1 ≤ (W.alloc o).heap.size := Nat.le_of_eq (Array.size_push ..).symm
theorem SegsIn.more {W : World} {B B' : Nat} {A : Option Addr} {n : Nat} {l : List Sg} (h : SegsIn W B A n l) (hB : B ≤ B') : SegsIn W B' A n l := ⟨h.1.more hB, h.2⟩
theorem psame_self (w : World) (B : Nat) (hB : B ≤ w.heap.size) (A A' : Option Addr) (n c n' c' : Nat) (l : List Sg) (h : SegsIn w B A n l) (h' : SegsIn w B A' n' l) (hn0 : n ≤ 4398046511104) (hn0' : n' ≤ 4398046511104) (x : Int) :
  Calls Tryz.prog 19 #[.agg #[.int .i64 x, .slice A n c], .agg #[.int .i64 x, .slice A' n' c']] w fun e w' => e = .returned (.bool true) ∧ Below w.heap.size w w' :=
 (psame_any w B hB A A' n c n' c' l l h h' hn0 hn0' x x).mono fun e w' hh => ⟨hh.1.trans (by simp), hh.2⟩
theorem same_yes (w : World) (B : Nat) (A A' : Option Addr) (n n' c c' : Nat) (xs ys : List ByteArray) (hx : Sl w B 1 A n (xs.map .string)) (hy : Sl w B 1 A' n' (ys.map .string)) (hB : B ≤ w.heap.size) (hn : n ≤ maxLen) (hn' : n' ≤ maxLen) (e : xs = ys) :
  Calls Tryz.prog 14 #[.slice A n c, .slice A' n' c'] w fun e w' => e = .returned (.bool true) ∧ Below w.heap.size w w' :=
 (same_any w B A A' n n' c c' xs ys hx hy hB hn hn').mono fun e' w' hh => ⟨hh.1.trans (by rw [decide_eq_true e]), hh.2⟩
theorem own_sl {W : World} {base : Nat} {A : Option Addr} {n c : Nat} {l : List (List UInt8)} (h : W.ownsRow base 9 1 (.slice A n c) n (l.map encStr)) : Sl W W.heap.size 1 A n ((l.map bs).map .string) := by
 have := Sl.of_own h
 rw [List.map_map]
 exact this
def F4 : List ByteArray := [(⟨#[100, 95, 48, 48, 48, 48, 48, 48, 48, 48, 54]⟩ : ByteArray), ⟨#[112, 95, 48, 48, 48, 48, 48, 48, 48, 48, 51]⟩, ⟨#[115, 95, 48, 48, 48, 48, 48, 48, 48, 48, 50]⟩, ⟨#[115, 95, 48, 48, 48, 48, 48, 48, 48, 48, 53]⟩]
theorem files_one (w : World) (hT : Tab w) (B : Nat) (hB : B ≤ w.heap.size) (A : Option Addr) (c : Nat) (h : SegsIn w B A 2 oneL) :
  Calls Tryz.prog 15 #[.int .i64 3, .agg #[.int .i64 7, .slice A 2 c]] w fun e w' => ∃ A' c', e = .returned (.slice A' 4 c') ∧ Sl w' w'.heap.size 1 A' 4 (F4.map .string) ∧ Below w.heap.size w w' := by
 refine (files_any w hT B hB 3 7 (by omega) A 2 c oneL h (by omega) ones_z).mono ?_
 rintro e w' ⟨A', c', h1, h2, h3⟩
 have hl : (filesZ 3 oneL).length = 4 := by rw [one_files]; rfl
 rw [hl] at h1 h2
 rw [one_files] at h2
 exact ⟨A', c', h1, own_sl h2, h3⟩
theorem pawake_any (w : World) (hT : Tab w) (hE : Errs w) : Calls Tryz.prog 9 #[] w fun e w' => e = .returned (.bool true) ∧ Below w.heap.size w w' := by
 have HN := Lib.hid (dk_new Unit (brefl w))
 go_enter Tryz.func9, Tryz.ntmps9
 go_wp2_with fail
 refine HN.out.mono ?_
 rintro e w1 ⟨rfl, ho1⟩
 have HO1 := Lib.hid ho1
 obtain ⟨p, hp⟩ : ∃ p, w.heap.size + 3 = p := ⟨_, rfl⟩
 rw [hp] at HO1 ⊢
 clear ho1 hp HN
 go_wp2_with fail
 refine (one_any w1).mono ?_
 rintro e w2 ⟨A2, c2, rfl, hs2, hb2⟩
 have HO2 := Lib.hid (HO1.out.on hb2)
 have HSV := Lib.hid (save_any w w2 p (DS.new Unit) HO2.out hT 0 0 (by omega) (small_new Unit) (good_new Unit) (by omega) 3 (by omega) w2.heap.size (Nat.le_refl _) A2 2 c2 oneL (Lib.hid hs2) (by omega) 7)
 have HE := Lib.hid (save_first Unit (n := 3) (nx := 7) (l := oneL) (by decide) one_ok)
 rw [HE.out.1] at HSV
 clear hs2 hb2
 go_wp2_with fail
 refine HSV.out.mono ?_
 rintro e w3 ⟨rfl, ho3, _⟩
 have HO3 : Hid (Own w w3 p DA) := ho3
 have HSM : Hid (DA.small (0 + 5)) := saveD_small (by decide) one_ok (small_new Unit)
 have HGD : Hid (DA.good (0 + 180000000000)) := saveD_good (by decide) one_ok (good_new Unit)
 have HDN : Hid (DA.down = false) := HE.out.2.1.2.2
 have HND := Lib.hid (own_nodup ho3)
 have HSK := Lib.hid (own_strk ho3)
 have HSS : Hid (∀ ss : List (List UInt8), ss.Perm (strKeys DA.names) → sortedN ss = [nameP 112 3]) := fun ss h => da_keys HSK.out h ⟨0, Nat.zero_le _, HND.out⟩
 have HLA : Hid (∀ ss : List (List UInt8), ss.Perm (strKeys DA.names) → latestD DA ss = some (3, 7, oneL)) := fun ss h => by
  obtain ⟨_, _, f, g, L, v, hf, hg, hon⟩ := HE.out
  exact latest_at v HDN.out HSK.out h (by decide) hf (by rw [hg]; exact read_seal one_ok (by decide)) (fun s k hk => .inr ⟨3, by decide, hon s k hk⟩)
 have HLT := Lib.hid (latest_any w w3 p DA ho3 hT hE (HSM.out.fits (by omega)) HDN.out (HGD.out.more (by omega)) (by
  intro s hs
  have h1 : s ∈ sortedN (strKeys DA.names) := by
   show s ∈ sortS _
   rw [sortS_mem]
   exact hs
  rw [HSS.out _ (List.Perm.refl _), List.mem_singleton] at h1
  rw [h1]
  have := name_le 112 3
  omega))
 clear ho3
 go_wp2_with fail
 refine HLT.out.mono ?_
 rintro e w4 ⟨ss, hss, hpost, ho4, hb4⟩
 rw [HLA.out ss hss] at hpost
 obtain ⟨A4, n4, c4, rfl, hs4, _⟩ := hpost
 have hn4 : n4 = 2 := by have := hs4.2; simpa [oneL] using this.symm
 subst hn4
 have HO4 := Lib.hid ho4
 have HS4 := Lib.hid hs4
 clear hss ho4 hs4 hb4
 go_wp2_with fail
 obtain ⟨V0, hV0⟩ : ∃ V0, w4.alloc (.cells #[.int .i64 7, .slice A4 2 c4] 24) = V0 := ⟨_, rfl⟩
 have hb0 : Below w4.heap.size w4 V0 := by rw [← hV0]; exact bnew (brefl w4) _
 have hx0 : V0.heap[w4.heap.size]? = some (.cells #[.int .i64 7, .slice A4 2 c4] 24 (0, 0)) := by rw [← hV0]; exact heap_alloc_new _ _
 rw [hV0]
 have HX := Lib.hid hx0
 have HO0 := Lib.hid (HO4.out.on hb0)
 have HS0 := Lib.hid ((HS4.out.keep hb0).more hb0.size)
 have HK : Hid (∀ V, Below V0.heap.size V0 V → V.cell? ⟨w4.heap.size, 0, none⟩ = some (.int .i64 7) ∧ V.cell? ⟨w4.heap.size, 1, none⟩ = some (.slice A4 2 c4)) := fun V hv => by
  obtain ⟨k0, k1, _, _⟩ := cells2 ((hv.block _ (Array.getElem?_eq_some_iff.1 hx0).1).trans hx0)
  exact ⟨k0, k1⟩
 have HTV : Hid (∀ V, Below V0.heap.size V0 V → Tab V) := fun V hv => hT.below (HO0.out.below.trans (hv.mono HO0.out.below.size))
 have HON1 := Lib.hid one_any
 have HON2 := Lib.hid one_any
 clear hV0 hb0 hx0 HLT HSV HO1 HO2 HO3 HO4 HS4 HLA HND HSK HGD HE
 go_region_held3 (fun w' => w'.cell? ⟨w4.heap.size, 0, none⟩ = some (.int .i64 7) ∧ w'.cell? ⟨w4.heap.size, 1, none⟩ = some (.slice A4 2 c4))
  (first | assumption | (refine HK.out _ ?_; (repeat (first | exact HV7.out | exact HV6.out | exact HV5.out | exact HV4.out | exact HV3.out | exact HV2.out | exact HV1.out | exact brefl _ | refine Below.drew ?_ | refine bnew ?_ _)); done))
  (first
  | (go_at_call 36; refine (HON1.out _).mono ?_; rintro e V1 ⟨A1, c1, rfl, hs1, hv1⟩; have HV1 : Hid (Below V0.heap.size V0 V1) := bcall (by repeat (first | exact HV7.out | exact HV6.out | exact HV5.out | exact HV4.out | exact HV3.out | exact HV2.out | exact HV1.out | exact brefl _ | refine Below.drew ?_ | refine bnew ?_ _)) hv1; have HS1 := Lib.hid hs1; have HS4 := Lib.hid ((HS0.out.keep HV1.out).more HV1.out.size); clear HON1 hs1 hv1)
  | (go_at_call 19; refine (psame_self _ V1.heap.size (Below.size (B := V1.heap.size) (by repeat (first | exact brefl _ | refine Below.drew ?_ | refine bnew ?_ _))) A4 A1 2 c4 2 c1 oneL (HS4.out.keep (by repeat (first | exact brefl _ | refine Below.drew ?_ | refine bnew ?_ _))) (HS1.out.keep (by repeat (first | exact brefl _ | refine Below.drew ?_ | refine bnew ?_ _))) (by omega) (by omega) 7).mono ?_; rintro e V2 ⟨rfl, hv2⟩; have HV2 : Hid (Below V0.heap.size V0 V2) := bcall (by repeat (first | exact HV7.out | exact HV6.out | exact HV5.out | exact HV4.out | exact HV3.out | exact HV2.out | exact HV1.out | exact brefl _ | refine Below.drew ?_ | refine bnew ?_ _)) hv2; clear hv2)
  | (
    go_at_call 29; refine (dr_list (HO0.out.on (by repeat (first | exact HV7.out | exact HV6.out | exact HV5.out | exact HV4.out | exact HV3.out | exact HV2.out | exact HV1.out | exact brefl _ | refine Below.drew ?_ | refine bnew ?_ _))) (HSM.out.fits (by omega)) HDN.out).mono ?_; rintro e V3 ⟨⟨v, ss3, rfl, hp3, hown3, hv3⟩, ho3⟩; have h3 := HSS.out ss3 hp3; have hl3 : ss3.length = 1 := by rw [← sortS_len ss3]; show (sortedN ss3).length = 1; rw [h3]; rfl
    rw [hl3] at hown3; obtain ⟨A3, c3, rfl, _⟩ := own_shape hown3; have HV3 : Hid (Below V0.heap.size V0 V3) := bcall (by repeat (first | exact HV7.out | exact HV6.out | exact HV5.out | exact HV4.out | exact HV3.out | exact HV2.out | exact HV1.out | exact brefl _ | refine Below.drew ?_ | refine bnew ?_ _)) hv3; have HR3 : Hid (Sl V3 V3.heap.size 1 A3 1 (([nameP 112 3].map bs).map .string)) := (by have h := hown3; change V3.ownsRow _ _ _ _ _ ((sortedN ss3).map encStr) at h; rw [h3] at h; exact own_sl h); have HQ3 := Lib.hid hv3; clear hown3 ho3 hv3 h3 hl3 hp3)
  | (
    go_at_call 14; refine (same_yes _ _ A3 _ 1 1 c3 1 ([nameP 112 3].map bs) [(⟨#[112, 95, 48, 48, 48, 48, 48, 48, 48, 48, 51]⟩ : ByteArray)] ((HR3.out.below (by repeat (first | exact (brefl V3) | refine Below.drew ?_ | refine bnew ?_ _))).more (Below.size (B := V3.heap.size) (by repeat (first | exact (brefl V3) | refine Below.drew ?_ | refine bnew ?_ _)))) ?r4 (Nat.le_refl _) (by unfold maxLen; omega) (by unfold maxLen; omega) ?e4).mono ?_
    case r4 => first
     | exact (sl_row (heap_alloc_new V3 _) 1 1 rfl).more (le_al _ _)
     | exact (sl_row ((HQ3.out.block _ (le_al _ _)).trans (heap_alloc_new _ _)) 1 1 rfl).more (Nat.lt_of_lt_of_le (le_al _ _) HQ3.out.size)
    case e4 => show [bs (nameP 112 3)] = _; rw [one_name]
    rintro e V4 ⟨rfl, hv4⟩; have HV4 : Hid (Below V0.heap.size V0 V4) := bcall (by repeat (first | exact HV7.out | exact HV6.out | exact HV5.out | exact HV4.out | exact HV3.out | exact HV2.out | exact HV1.out | exact brefl _ | refine Below.drew ?_ | refine bnew ?_ _)) hv4; clear HR3 HQ3 hv4)
  | (go_at_call 36; refine (HON2.out _).mono ?_; rintro e V5 ⟨A5, c5, rfl, hs5, hv5⟩; have HV5 : Hid (Below V0.heap.size V0 V5) := bcall (by repeat (first | exact HV7.out | exact HV6.out | exact HV5.out | exact HV4.out | exact HV3.out | exact HV2.out | exact HV1.out | exact brefl _ | refine Below.drew ?_ | refine bnew ?_ _)) hv5; have HS5 := Lib.hid hs5; have HQ5 := Lib.hid hv5; clear HON2 hs5 hv5)
  | (
    go_at_call 15; refine (files_one _ (HTV.out _ (by repeat (first | exact HV7.out | exact HV6.out | exact HV5.out | exact HV4.out | exact HV3.out | exact HV2.out | exact HV1.out | exact brefl _ | refine Below.drew ?_ | refine bnew ?_ _))) V5.heap.size (Below.size (B := V5.heap.size) (by repeat (first | exact (brefl V5) | refine Below.drew ?_ | refine bnew ?_ _))) A5 c5 (HS5.out.keep (by repeat (first | exact (brefl V5) | refine Below.drew ?_ | refine bnew ?_ _)))).mono ?_
    rintro e V6 ⟨A6, c6, rfl, hr6, hv6⟩; have HV6 : Hid (Below V0.heap.size V0 V6) := bcall (by repeat (first | exact HV7.out | exact HV6.out | exact HV5.out | exact HV4.out | exact HV3.out | exact HV2.out | exact HV1.out | exact brefl _ | refine Below.drew ?_ | refine bnew ?_ _)) hv6; have HQ6 := Lib.hid hv6; have HR6 := Lib.hid hr6; clear hr6 hv6)
  | (
    go_at_call 14; refine (same_yes _ _ A6 _ 4 4 c6 4 F4 [(⟨#[100, 95, 48, 48, 48, 48, 48, 48, 48, 48, 54]⟩ : ByteArray), ⟨#[112, 95, 48, 48, 48, 48, 48, 48, 48, 48, 51]⟩, ⟨#[115, 95, 48, 48, 48, 48, 48, 48, 48, 48, 50]⟩, ⟨#[115, 95, 48, 48, 48, 48, 48, 48, 48, 48, 53]⟩] ((HR6.out.below (by repeat (first | exact (brefl V6) | refine Below.drew ?_ | refine bnew ?_ _))).more (Below.size (B := V6.heap.size) (by repeat (first | exact (brefl V6) | refine Below.drew ?_ | refine bnew ?_ _)))) ?r7 (Nat.le_refl _) (by unfold maxLen; omega) (by unfold maxLen; omega) ?e7).mono ?_
    case r7 => first
     | exact (sl_row (heap_alloc_new V6 _) 1 4 rfl).more (le_al _ _)
     | exact (sl_row ((HQ6.out.block _ (le_al _ _)).trans (heap_alloc_new _ _)) 1 4 rfl).more (Nat.lt_of_lt_of_le (le_al _ _) HQ6.out.size)
     | exact (sl_row ((HQ6.out.block _ (Nat.lt_of_lt_of_le (le_al _ _) HQ5.out.size)).trans ((HQ5.out.block _ (le_al _ _)).trans (heap_alloc_new _ _))) 1 4 rfl).more (Nat.lt_of_lt_of_le (Nat.lt_of_lt_of_le (le_al _ _) HQ5.out.size) HQ6.out.size)
    case e7 => rfl
    rintro e V7 ⟨rfl, hv7⟩; have HV7 : Hid (Below V0.heap.size V0 V7) := bcall (by repeat (first | exact HV7.out | exact HV6.out | exact HV5.out | exact HV4.out | exact HV3.out | exact HV2.out | exact HV1.out | exact brefl _ | refine Below.drew ?_ | refine bnew ?_ _)) hv7; clear hv7))
 all_goals
  go_wp2_with fail
  go_ret
  exact ⟨rfl, HO0.out.below.trans (HV7.out.mono HO0.out.below.size)⟩
end Go.Proofs.YtkhemhiifhggmaaGreatDoor
