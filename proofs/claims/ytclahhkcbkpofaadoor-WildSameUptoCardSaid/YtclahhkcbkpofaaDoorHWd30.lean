/- The reference's May. -/
import Derived.Test.YtclahhkcbkpofaaDoorHWd13
import Derived.Test.YtclahhkcbkpofaaDoorHWd20
import Derived.Test.YtclahhkcbkpofaaDoorHWd24
namespace Go.Proofs.YtclahhkcbkpofaaDoor
open Go.RowKit Go.Maps
set_option linter.unusedVariables false in
set_option maxRecDepth 100000 in
set_option maxHeartbeats 8000000 in
theorem may_a (w W0 : World) (B : Nat) (hB : B ≤ w.heap.size) (A : Option Addr) (n c : Nat) (H : List Lsh) (HS : Hid (LoIn w B A n c H)) (hlen : H.length = n) (hcm : n ≤ 2097152) (i : Nat) (hi : i < n) (x : Lsh) (HX : Hid (H[i]? = some x)) (HBAD : Hid ((x.d.arcs.all (okArc n) && x.d.free.all (okTo n)) = false → looseB (H.map (·.d)) = false)) (HB0 : Hid (Below w.heap.size w W0))
    (c1 c6 c7 c8 c9 c10 c11 c12 c58 c59 c60 c61 c62 c63 c64 c65 c66 c67 c68 c69 c70 c71 c72 c73 c74 c75 c76 c77 c78 c79 c80 c81 c82 c83 c84 c85 c86 c87 c88 c89 c90 c91 c92 u2 u5 u13 u14 u15 u16 u17 u18 u19 u20 u21 u22 u23 u24 u25 u26 u27 u28 u29 u30 u31 u32 u33 u34 u35 u36 u37 u38 u39 u40 u41 u42 u43 u44 u45 u46 u47 u48 u49 u50 u51 u52 u53 u54 u55 u56 u57 : Value) (Q0 : Exit → Act → World → Prop)
    (hret : ∀ (W : World) (x4 u5 u13 u14 u15 u16 u17 u18 u19 u20 u21 u22 u23 u24 u25 u26 u27 u28 u29 u30 u31 u32 u33 u34 u35 u36 u37 u38 u39 u40 u41 u42 u43 u44 u45 u46 u47 u48 u49 u50 u51 u52 u53 u54 u55 u56 u57 : Value), Hid (looseB (H.map (·.d)) = false) → Hid (Below w.heap.size w W) → Q0 .ret ⟨List.toArray (.slice A n c :: c1 :: .bool false :: .int .i64 (i : Int) :: x4 :: u5 :: c6 :: c7 :: c8 :: c9 :: c10 :: c11 :: c12 :: u13 :: u14 :: u15 :: u16 :: u17 :: u18 :: u19 :: u20 :: u21 :: u22 :: u23 :: u24 :: u25 :: u26 :: u27 :: u28 :: u29 :: u30 :: u31 :: u32 :: u33 :: u34 :: u35 :: u36 :: u37 :: u38 :: u39 :: u40 :: u41 :: u42 :: u43 :: u44 :: u45 :: u46 :: u47 :: u48 :: u49 :: u50 :: u51 :: u52 :: u53 :: u54 :: u55 :: u56 :: u57 :: c58 :: c59 :: c60 :: c61 :: c62 :: c63 :: c64 :: c65 :: c66 :: c67 :: c68 :: c69 :: c70 :: c71 :: c72 :: c73 :: c74 :: c75 :: c76 :: c77 :: c78 :: c79 :: c80 :: c81 :: c82 :: c83 :: c84 :: c85 :: c86 :: c87 :: c88 :: c89 :: c90 :: c91 :: c92 :: []), []⟩ W)
    (hexit : ∀ (W : World) (x4 u2 u5 u13 u14 u15 u16 u17 u18 u19 u20 u21 u22 u23 u24 u25 u26 u27 u28 u29 u30 u31 u32 u33 u34 u35 u36 u37 u38 u39 u40 u41 u42 u43 u44 u45 u46 u47 u48 u49 u50 u51 u52 u53 u54 u55 u56 u57 : Value), Hid (x.d.arcs.all (okArc n) = true) → Hid (Below w.heap.size w W) → Q0 (.exit 2) ⟨List.toArray (.slice A n c :: c1 :: u2 :: .int .i64 (i : Int) :: x4 :: u5 :: c6 :: c7 :: c8 :: c9 :: c10 :: c11 :: c12 :: u13 :: u14 :: u15 :: u16 :: u17 :: u18 :: u19 :: u20 :: u21 :: u22 :: u23 :: u24 :: u25 :: u26 :: u27 :: u28 :: u29 :: u30 :: u31 :: u32 :: u33 :: u34 :: u35 :: u36 :: u37 :: u38 :: u39 :: u40 :: u41 :: u42 :: u43 :: u44 :: u45 :: u46 :: u47 :: u48 :: u49 :: u50 :: u51 :: u52 :: u53 :: u54 :: u55 :: u56 :: u57 :: c58 :: c59 :: c60 :: c61 :: c62 :: c63 :: c64 :: c65 :: c66 :: c67 :: c68 :: c69 :: c70 :: c71 :: c72 :: c73 :: c74 :: c75 :: c76 :: c77 :: c78 :: c79 :: c80 :: c81 :: c82 :: c83 :: c84 :: c85 :: c86 :: c87 :: c88 :: c89 :: c90 :: c91 :: c92 :: []), []⟩ W) :
    Code.wp Tryd.prog (.loop (loopOf Tryd.f11 1)) Q0 ⟨List.toArray (.slice A n c :: c1 :: u2 :: .int .i64 (i : Int) :: .int .i64 (0 : Int) :: u5 :: c6 :: c7 :: c8 :: c9 :: c10 :: c11 :: c12 :: u13 :: u14 :: u15 :: u16 :: u17 :: u18 :: u19 :: u20 :: u21 :: u22 :: u23 :: u24 :: u25 :: u26 :: u27 :: u28 :: u29 :: u30 :: u31 :: u32 :: u33 :: u34 :: u35 :: u36 :: u37 :: u38 :: u39 :: u40 :: u41 :: u42 :: u43 :: u44 :: u45 :: u46 :: u47 :: u48 :: u49 :: u50 :: u51 :: u52 :: u53 :: u54 :: u55 :: u56 :: u57 :: c58 :: c59 :: c60 :: c61 :: c62 :: c63 :: c64 :: c65 :: c66 :: c67 :: c68 :: c69 :: c70 :: c71 :: c72 :: c73 :: c74 :: c75 :: c76 :: c77 :: c78 :: c79 :: c80 :: c81 :: c82 :: c83 :: c84 :: c85 :: c86 :: c87 :: c88 :: c89 :: c90 :: c91 :: c92 :: []), []⟩ W0 := by
  obtain ⟨m, hm⟩ : ∃ m, x.d.arcs.length = m := ⟨_, rfl⟩
  have HM := Lib.hid hm
  have HXM := Lib.hid (List.mem_of_getElem? HX.out)
  have hmf := (HS.out.ar x HXM.out).2
  rw [hm] at hmf
  obtain ⟨hqc, hq20⟩ := hmf
  clear hm
  conv => arg 2; arg 1; whnf
  go_loopw [4] (fun kv wr => ∃ k : Nat, k ≤ m ∧ kv = .int .i64 k ∧ Hid ((x.d.arcs.take k).all (okArc n) = true) ∧ Hid (Below w.heap.size w wr)) (fun kv _ => m - (intOf kv).toNat)
  case atStart => exact ⟨0, Nat.zero_le _, rfl, rfl, HB0⟩
  case round =>
    clear HB0
    obtain ⟨k, hk, rfl, HO, HB⟩ := hrel
    have HW := Lib.hid (HS.out.keep (HB.out.mono hB) (Nat.le_refl _))
    obtain ⟨b, off, rfl, hb, hcell⟩ := HW.out.at_ (by omega)
    obtain ⟨_, k1, _⟩ := hcell i x HX.out
    rw [HM.out] at k1
    have hbs := HB.out.size
    have hbw : b < wr.heap.size := by omega
    have hi2 : (i : Int) < (n : Int) := by omega
    clear hcell
    by_cases hkm : k < m
    · have hkm2 : (k : Int) < (m : Int) := by omega
      have q0 : decide ((k : Int) < (m : Int)) = true := decide_eq_true hkm2
      have q01 : decide (k < m) = true := decide_eq_true hkm
      obtain ⟨fb, fo, hF, hfb, hfc⟩ := (HW.out.arcs HXM.out).at_ (by rw [HM.out]; omega)
      obtain ⟨⟨lo, hi', tt⟩, hz⟩ : ∃ z, x.d.arcs[k]? = some z := ⟨x.d.arcs[k]'(by rw [HM.out]; exact hkm), List.getElem?_eq_getElem _⟩
      obtain ⟨f0, f1, f2⟩ := hfc k _ hz
      simp only at f0 f1 f2
      have hfw : fb < wr.heap.size := by omega
      rw [hF] at k1
      have HTK : Hid (x.d.arcs.take (k + 1) = x.d.arcs.take k ++ [(lo, hi', tt)]) := by show _ = _; rw [List.take_add_one, hz]; rfl
      have HBN := Lib.hid (bnew HB.out (.cells #[.int .i64 lo, .int .i64 hi', .int .i64 tt] 63))
      have HF : Hid (¬ (0 ≤ lo ∧ lo ≤ hi' ∧ hi' ≤ 255 ∧ 0 ≤ tt ∧ tt < (n : Int)) → looseB (H.map (·.d)) = false) := fun hn => HBAD.out (by
        have : x.d.arcs.all (okArc n) = false := List.all_eq_false.2 ⟨(lo, hi', tt), List.mem_of_getElem? hz, by unfold okArc; simp only [decide_eq_true_eq]; exact hn⟩
        rw [this, Bool.false_and])
      clear hfc hz HB
      by_cases t1 : lo < 0
      · have qt1 : decide (lo < 0) = true := decide_eq_true t1
        have HFL := Lib.hid (HF.out (fun h => by omega))
        clear HF HO
        go_wp2_with fail
        exact hret _ _ _ _ _ _ _ _ _ _ _ _ _ _ _ _ _ _ _ _ _ _ _ _ _ _ _ _ _ _ _ _ _ _ _ _ _ _ _ _ _ _ _ _ _ _ _ _ HFL HBN
      · have qt1 : decide (lo < 0) = false := decide_eq_false t1
        by_cases t2 : hi' > 255
        · have qt2 : decide (hi' > 255) = true := decide_eq_true t2
          have HFL := Lib.hid (HF.out (fun h => by omega))
          clear HF HO
          go_wp2_with fail
          exact hret _ _ _ _ _ _ _ _ _ _ _ _ _ _ _ _ _ _ _ _ _ _ _ _ _ _ _ _ _ _ _ _ _ _ _ _ _ _ _ _ _ _ _ _ _ _ _ _ HFL HBN
        · have qt2 : decide (hi' > 255) = false := decide_eq_false t2
          by_cases t3 : lo > hi'
          · have qt3 : decide (lo > hi') = true := decide_eq_true t3
            have HFL := Lib.hid (HF.out (fun h => by omega))
            clear HF HO
            go_wp2_with fail
            exact hret _ _ _ _ _ _ _ _ _ _ _ _ _ _ _ _ _ _ _ _ _ _ _ _ _ _ _ _ _ _ _ _ _ _ _ _ _ _ _ _ _ _ _ _ _ _ _ _ HFL HBN
          · have qt3 : decide (lo > hi') = false := decide_eq_false t3
            by_cases t4 : tt < 0
            · have qt4 : decide (tt < 0) = true := decide_eq_true t4
              have HFL := Lib.hid (HF.out (fun h => by omega))
              clear HF HO
              go_wp2_with fail
              exact hret _ _ _ _ _ _ _ _ _ _ _ _ _ _ _ _ _ _ _ _ _ _ _ _ _ _ _ _ _ _ _ _ _ _ _ _ _ _ _ _ _ _ _ _ _ _ _ _ HFL HBN
            · have qt4 : decide (tt < 0) = false := decide_eq_false t4
              by_cases t5 : tt ≥ (n : Int)
              · have qt5 : decide (tt ≥ (n : Int)) = true := decide_eq_true t5
                have HFL := Lib.hid (HF.out (fun h => by omega))
                clear HF HO
                go_wp2_with fail
                exact hret _ _ _ _ _ _ _ _ _ _ _ _ _ _ _ _ _ _ _ _ _ _ _ _ _ _ _ _ _ _ _ _ _ _ _ _ _ _ _ _ _ _ _ _ _ _ _ _ HFL HBN
              · have qt5 : decide (tt ≥ (n : Int)) = false := decide_eq_false t5
                have HO2 : Hid ((x.d.arcs.take (k + 1)).all (okArc n) = true) := by
                  show _ = _
                  rw [HTK.out, List.all_append, HO.out]
                  simp [okArc]
                  omega
                clear HF HO
                go_wp2_with fail
                go_roundw
                case rel => exact ⟨k + 1, by omega, by go_num, HO2, HBN⟩
                case measure => simp [intOf]; omega
    · obtain rfl : k = m := by omega
      have q0 : decide ((k : Int) < (k : Int)) = false := decide_eq_false (by omega)
      have HE : Hid (x.d.arcs.all (okArc n) = true) := by
        have h1 := HO.out
        rwa [← HM.out, List.take_length] at h1
      clear HO
      go_wp2_with fail
      exact hexit wr _ _ _ _ _ _ _ _ _ _ _ _ _ _ _ _ _ _ _ _ _ _ _ _ _ _ _ _ _ _ _ _ _ _ _ _ _ _ _ _ _ _ _ _ _ _ _ _ HE HB
set_option linter.unusedVariables false in
set_option maxRecDepth 100000 in
set_option maxHeartbeats 8000000 in
theorem may_f (w W0 : World) (B : Nat) (hB : B ≤ w.heap.size) (A : Option Addr) (n c : Nat) (H : List Lsh) (HS : Hid (LoIn w B A n c H)) (hlen : H.length = n) (hcm : n ≤ 2097152) (i : Nat) (hi : i < n) (x : Lsh) (HX : Hid (H[i]? = some x)) (HBAD : Hid ((x.d.arcs.all (okArc n) && x.d.free.all (okTo n)) = false → looseB (H.map (·.d)) = false)) (HB0 : Hid (Below w.heap.size w W0))
    (c1 c4 c5 c7 c8 c9 c10 c11 c12 c13 c14 c15 c16 c17 c18 c19 c20 c21 c22 c23 c24 c25 c26 c27 c28 c29 c30 c31 c32 c33 c34 c35 c36 c37 c38 c39 c40 c41 c42 c43 c44 c45 c46 c47 c48 c49 c50 c51 c52 c53 c54 c55 c56 c57 c90 c91 c92 u2 u58 u59 u60 u61 u62 u63 u64 u65 u66 u67 u68 u69 u70 u71 u72 u73 u74 u75 u76 u77 u78 u79 u80 u81 u82 u83 u84 u85 u86 u87 u88 u89 : Value) (Q0 : Exit → Act → World → Prop)
    (hret : ∀ (W : World) (x6 u58 u59 u60 u61 u62 u63 u64 u65 u66 u67 u68 u69 u70 u71 u72 u73 u74 u75 u76 u77 u78 u79 u80 u81 u82 u83 u84 u85 u86 u87 u88 u89 : Value), Hid (looseB (H.map (·.d)) = false) → Hid (Below w.heap.size w W) → Q0 .ret ⟨List.toArray (.slice A n c :: c1 :: .bool false :: .int .i64 (i : Int) :: c4 :: c5 :: x6 :: c7 :: c8 :: c9 :: c10 :: c11 :: c12 :: c13 :: c14 :: c15 :: c16 :: c17 :: c18 :: c19 :: c20 :: c21 :: c22 :: c23 :: c24 :: c25 :: c26 :: c27 :: c28 :: c29 :: c30 :: c31 :: c32 :: c33 :: c34 :: c35 :: c36 :: c37 :: c38 :: c39 :: c40 :: c41 :: c42 :: c43 :: c44 :: c45 :: c46 :: c47 :: c48 :: c49 :: c50 :: c51 :: c52 :: c53 :: c54 :: c55 :: c56 :: c57 :: u58 :: u59 :: u60 :: u61 :: u62 :: u63 :: u64 :: u65 :: u66 :: u67 :: u68 :: u69 :: u70 :: u71 :: u72 :: u73 :: u74 :: u75 :: u76 :: u77 :: u78 :: u79 :: u80 :: u81 :: u82 :: u83 :: u84 :: u85 :: u86 :: u87 :: u88 :: u89 :: c90 :: c91 :: c92 :: []), []⟩ W)
    (hexit : ∀ (W : World) (x6 u2 u58 u59 u60 u61 u62 u63 u64 u65 u66 u67 u68 u69 u70 u71 u72 u73 u74 u75 u76 u77 u78 u79 u80 u81 u82 u83 u84 u85 u86 u87 u88 u89 : Value), Hid (x.d.free.all (okTo n) = true) → Hid (Below w.heap.size w W) → Q0 (.exit 4) ⟨List.toArray (.slice A n c :: c1 :: u2 :: .int .i64 (i : Int) :: c4 :: c5 :: x6 :: c7 :: c8 :: c9 :: c10 :: c11 :: c12 :: c13 :: c14 :: c15 :: c16 :: c17 :: c18 :: c19 :: c20 :: c21 :: c22 :: c23 :: c24 :: c25 :: c26 :: c27 :: c28 :: c29 :: c30 :: c31 :: c32 :: c33 :: c34 :: c35 :: c36 :: c37 :: c38 :: c39 :: c40 :: c41 :: c42 :: c43 :: c44 :: c45 :: c46 :: c47 :: c48 :: c49 :: c50 :: c51 :: c52 :: c53 :: c54 :: c55 :: c56 :: c57 :: u58 :: u59 :: u60 :: u61 :: u62 :: u63 :: u64 :: u65 :: u66 :: u67 :: u68 :: u69 :: u70 :: u71 :: u72 :: u73 :: u74 :: u75 :: u76 :: u77 :: u78 :: u79 :: u80 :: u81 :: u82 :: u83 :: u84 :: u85 :: u86 :: u87 :: u88 :: u89 :: c90 :: c91 :: c92 :: []), []⟩ W) :
    Code.wp Tryd.prog (.loop (loopOf Tryd.f11 2)) Q0 ⟨List.toArray (.slice A n c :: c1 :: u2 :: .int .i64 (i : Int) :: c4 :: c5 :: .int .i64 (0 : Int) :: c7 :: c8 :: c9 :: c10 :: c11 :: c12 :: c13 :: c14 :: c15 :: c16 :: c17 :: c18 :: c19 :: c20 :: c21 :: c22 :: c23 :: c24 :: c25 :: c26 :: c27 :: c28 :: c29 :: c30 :: c31 :: c32 :: c33 :: c34 :: c35 :: c36 :: c37 :: c38 :: c39 :: c40 :: c41 :: c42 :: c43 :: c44 :: c45 :: c46 :: c47 :: c48 :: c49 :: c50 :: c51 :: c52 :: c53 :: c54 :: c55 :: c56 :: c57 :: u58 :: u59 :: u60 :: u61 :: u62 :: u63 :: u64 :: u65 :: u66 :: u67 :: u68 :: u69 :: u70 :: u71 :: u72 :: u73 :: u74 :: u75 :: u76 :: u77 :: u78 :: u79 :: u80 :: u81 :: u82 :: u83 :: u84 :: u85 :: u86 :: u87 :: u88 :: u89 :: c90 :: c91 :: c92 :: []), []⟩ W0 := by
  obtain ⟨m, hm⟩ : ∃ m, x.d.free.length = m := ⟨_, rfl⟩
  have HM := Lib.hid hm
  have HXM := Lib.hid (List.mem_of_getElem? HX.out)
  have hmf := (HS.out.fr x HXM.out).2
  rw [hm] at hmf
  obtain ⟨hqc, hq20, _⟩ := hmf
  clear hm
  conv => arg 2; arg 1; whnf
  go_loopw [6] (fun kv wr => ∃ k : Nat, k ≤ m ∧ kv = .int .i64 k ∧ Hid ((x.d.free.take k).all (okTo n) = true) ∧ Hid (Below w.heap.size w wr)) (fun kv _ => m - (intOf kv).toNat)
  case atStart => exact ⟨0, Nat.zero_le _, rfl, rfl, HB0⟩
  case round =>
    clear HB0
    obtain ⟨k, hk, rfl, HO, HB⟩ := hrel
    have HW := Lib.hid (HS.out.keep (HB.out.mono hB) (Nat.le_refl _))
    obtain ⟨b, off, rfl, hb, hcell⟩ := HW.out.at_ (by omega)
    obtain ⟨_, _, k2⟩ := hcell i x HX.out
    rw [HM.out] at k2
    have hbs := HB.out.size
    have hbw : b < wr.heap.size := by omega
    have hi2 : (i : Int) < (n : Int) := by omega
    clear hcell
    by_cases hkm : k < m
    · have hkm2 : (k : Int) < (m : Int) := by omega
      have q0 : decide ((k : Int) < (m : Int)) = true := decide_eq_true hkm2
      have q01 : decide (k < m) = true := decide_eq_true hkm
      obtain ⟨fb, fo, hF, hfb, hfc⟩ := HW.out.frees HXM.out (by rw [HM.out]; omega)
      obtain ⟨tt, hz⟩ : ∃ z, x.d.free[k]? = some z := ⟨x.d.free[k]'(by rw [HM.out]; exact hkm), List.getElem?_eq_getElem _⟩
      have f0 := hfc k tt hz
      have hfw : fb < wr.heap.size := by omega
      rw [hF] at k2
      have HTK : Hid (x.d.free.take (k + 1) = x.d.free.take k ++ [tt]) := by show _ = _; rw [List.take_add_one, hz]; rfl
      have HF : Hid (¬ (0 ≤ tt ∧ tt < (n : Int)) → looseB (H.map (·.d)) = false) := fun hn => HBAD.out (by
        have : x.d.free.all (okTo n) = false := List.all_eq_false.2 ⟨tt, List.mem_of_getElem? hz, by unfold okTo; simp only [decide_eq_true_eq]; exact hn⟩
        rw [this, Bool.and_false])
      clear hfc hz
      by_cases t4 : tt < 0
      · have qt4 : decide (tt < 0) = true := decide_eq_true t4
        have HFL := Lib.hid (HF.out (fun h => by omega))
        clear HF HO
        go_wp2_with fail
        exact hret _ _ _ _ _ _ _ _ _ _ _ _ _ _ _ _ _ _ _ _ _ _ _ _ _ _ _ _ _ _ _ _ _ _ HFL HB
      · have qt4 : decide (tt < 0) = false := decide_eq_false t4
        by_cases t5 : tt ≥ (n : Int)
        · have qt5 : decide (tt ≥ (n : Int)) = true := decide_eq_true t5
          have HFL := Lib.hid (HF.out (fun h => by omega))
          clear HF HO
          go_wp2_with fail
          exact hret _ _ _ _ _ _ _ _ _ _ _ _ _ _ _ _ _ _ _ _ _ _ _ _ _ _ _ _ _ _ _ _ _ _ HFL HB
        · have qt5 : decide (tt ≥ (n : Int)) = false := decide_eq_false t5
          have HO2 : Hid ((x.d.free.take (k + 1)).all (okTo n) = true) := by
            show _ = _
            rw [HTK.out, List.all_append, HO.out]
            simp [okTo]
            omega
          clear HF HO
          go_wp2_with fail
          go_roundw
          case rel => exact ⟨k + 1, by omega, by go_num, HO2, HB⟩
          case measure => simp [intOf]; omega
    · obtain rfl : k = m := by omega
      have q0 : decide ((k : Int) < (k : Int)) = false := decide_eq_false (by omega)
      have HE : Hid (x.d.free.all (okTo n) = true) := by
        have h1 := HO.out
        rwa [← HM.out, List.take_length] at h1
      clear HO
      go_wp2_with fail
      exact hexit wr _ _ _ _ _ _ _ _ _ _ _ _ _ _ _ _ _ _ _ _ _ _ _ _ _ _ _ _ _ _ _ _ _ _ HE HB
end Go.Proofs.YtclahhkcbkpofaaDoor
/- The reference's May: the whole. -/
namespace Go.Proofs.YtclahhkcbkpofaaDoor
open Go.RowKit Go.Maps
set_option linter.unusedVariables false in
set_option maxRecDepth 100000 in
set_option maxHeartbeats 8000000 in
theorem may_any (w : World) (B : Nat) (hB : B ≤ w.heap.size) (A : Option Addr) (n c : Nat) (H : List Lsh) (h : LoIn w B A n c H) :
    Calls Tryd.prog 11 #[.slice A n c] w fun e w' => e = .returned (.bool (looseB (H.map (·.d)))) ∧ Below w.heap.size w w' := by
  have HS := Lib.hid h
  have hlen := h.len
  have hcm := h.cm
  clear h
  go_enter Tryd.func11, Tryd.ntmps11
  go_wp2_with fail
  have HBAD : Hid (∀ x ∈ H, (x.d.arcs.all (okArc n) && x.d.free.all (okTo n)) = false → looseB (H.map (·.d)) = false) := fun x hx hf => by
    unfold looseB
    have : (H.map (·.d)).all (fun s => s.arcs.all (okArc (H.map (·.d)).length) && s.free.all (okTo (H.map (·.d)).length)) = false := by
      rw [List.all_eq_false]
      refine ⟨x.d, List.mem_map_of_mem hx, ?_⟩
      rw [List.length_map, hlen, hf]
      simp
    rw [this, Bool.and_false]
  go_loopw [3] (fun iv wr => ∃ i : Nat, i ≤ n ∧ iv = .int .i64 i ∧ Hid (∀ x ∈ H.take i, (x.d.arcs.all (okArc n) && x.d.free.all (okTo n)) = true) ∧ Hid (Below w.heap.size w wr)) (fun iv _ => n - (intOf iv).toNat)
  case atStart => exact ⟨0, Nat.zero_le _, rfl, fun x hx => by simp at hx, brefl w⟩
  case round =>
    obtain ⟨i, hi, rfl, HK, HB⟩ := hrel
    by_cases hin : i < n
    · obtain ⟨x, hx⟩ : ∃ x, H[i]? = some x := ⟨H[i]'(by omega), List.getElem?_eq_getElem _⟩
      have HX := Lib.hid hx
      have HBX := Lib.hid (HBAD.out x (List.mem_of_getElem? hx))
      clear hx
      go_wp2_with fail
      refine may_a w wr B hB A n c H HS hlen hcm i hin x HX HBX HB _ _ _ _ _ _ _ _ _ _ _ _ _ _ _ _ _ _ _ _ _ _ _ _ _ _ _ _ _ _ _ _ _ _ _ _ _ _ _ _ _ _ _ _ _ _ _ _ _ _ _ _ _ _ _ _ _ _ _ _ _ _ _ _ _ _ _ _ _ _ _ _ _ _ _ _ _ _ _ _ _ _ _ _ _ _ _ _ _ _ _ ?_ ?_
      · intro W x4 u5 u13 u14 u15 u16 u17 u18 u19 u20 u21 u22 u23 u24 u25 u26 u27 u28 u29 u30 u31 u32 u33 u34 u35 u36 u37 u38 u39 u40 u41 u42 u43 u44 u45 u46 u47 u48 u49 u50 u51 u52 u53 u54 u55 u56 u57 HE HBW
        clear HK HB
        go_wp2_with fail
        go_ret
        exact ⟨by rw [HE.out]; rfl, HBW.out⟩
      · intro W x4 u2 u5 u13 u14 u15 u16 u17 u18 u19 u20 u21 u22 u23 u24 u25 u26 u27 u28 u29 u30 u31 u32 u33 u34 u35 u36 u37 u38 u39 u40 u41 u42 u43 u44 u45 u46 u47 u48 u49 u50 u51 u52 u53 u54 u55 u56 u57 HA HBW
        clear HB
        go_wp2_with fail
        refine may_f w W B hB A n c H HS hlen hcm i hin x HX HBX HBW _ _ _ _ _ _ _ _ _ _ _ _ _ _ _ _ _ _ _ _ _ _ _ _ _ _ _ _ _ _ _ _ _ _ _ _ _ _ _ _ _ _ _ _ _ _ _ _ _ _ _ _ _ _ _ _ _ _ _ _ _ _ _ _ _ _ _ _ _ _ _ _ _ _ _ _ _ _ _ _ _ _ _ _ _ _ _ _ _ _ _ ?_ ?_
        · intro W x6 u58 u59 u60 u61 u62 u63 u64 u65 u66 u67 u68 u69 u70 u71 u72 u73 u74 u75 u76 u77 u78 u79 u80 u81 u82 u83 u84 u85 u86 u87 u88 u89 HE HBW
          clear HK
          go_wp2_with fail
          go_ret
          exact ⟨by rw [HE.out]; rfl, HBW.out⟩
        · intro W x6 u2 u58 u59 u60 u61 u62 u63 u64 u65 u66 u67 u68 u69 u70 u71 u72 u73 u74 u75 u76 u77 u78 u79 u80 u81 u82 u83 u84 u85 u86 u87 u88 u89 HFR HBW
          have HK2 : Hid (∀ y ∈ H.take (i + 1), (y.d.arcs.all (okArc n) && y.d.free.all (okTo n)) = true) := fun y hy => by
            rw [List.take_add_one, HX.out] at hy
            rcases List.mem_append.1 hy with hy | hy
            · exact HK.out y hy
            · simp at hy
              subst hy
              rw [HA.out, HFR.out]
              rfl
          clear HK
          go_wp2_with fail
          go_roundw
          case rel => exact ⟨i + 1, by omega, by go_num, HK2, HBW⟩
          case measure => simp [intOf]; omega
    · obtain rfl : i = n := by omega
      have HE : Hid (looseB (H.map (·.d)) = decide (i > 0)) := by
        show _ = _
        unfold looseB
        have h1 : (H.map (·.d)).all (fun s => s.arcs.all (okArc (H.map (·.d)).length) && s.free.all (okTo (H.map (·.d)).length)) = true := by
          rw [List.all_eq_true]
          intro s hs
          obtain ⟨x, hx, rfl⟩ := List.mem_map.1 hs
          rw [List.length_map, hlen]
          exact HK.out x (by rw [← hlen, List.take_length]; exact hx)
        rw [h1, Bool.and_true]
        cases H with
        | nil => subst hlen; rfl
        | cons a r => subst hlen; simp
      clear HK
      go_wp2_with fail
      go_ret
      exact ⟨by rw [HE.out]; first | rfl | simp, HB.out⟩
end Go.Proofs.YtclahhkcbkpofaaDoor
/- A state's text says what it is told apart by (plain Lean). -/
namespace Go.Proofs.YtclahhkcbkpofaaDoor
open Go.RowKit
def valD (l : List UInt8) : Nat := l.foldl (fun a c => a * 10 + (c.toNat - 48)) 0
theorem val_dec : ∀ u : Nat, valD (Lib.decDigits u) = u := by
  intro u
  induction u using Nat.strongRecOn with
  | ind u ih =>
    rw [Lib.decDigits]
    split
    · rename_i h
      unfold valD
      simp
      omega
    · rename_i h
      have h1 := ih (u / 10) (by omega)
      unfold valD at h1 ⊢
      rw [List.foldl_append, h1]
      simp
      omega
theorem dec_inj {u v : Nat} (h : Lib.decDigits u = Lib.decDigits v) : u = v := by
  rw [← val_dec u, h, val_dec]
theorem dec_mem : ∀ u : Nat, ∀ c ∈ Lib.decDigits u, 48 ≤ c.toNat ∧ c.toNat ≤ 57 := by
  intro u
  induction u using Nat.strongRecOn with
  | ind u ih =>
    rw [Lib.decDigits]
    split
    · rename_i h
      intro c hc
      rw [List.mem_singleton.1 hc]
      simp
      omega
    · rename_i h
      intro c hc
      rcases List.mem_append.1 hc with hc | hc
      · exact ih (u / 10) (by omega) c hc
      · rw [List.mem_singleton.1 hc]
        simp
        omega
theorem dec_ne (u : Nat) : Lib.decDigits u ≠ [] := by
  rw [Lib.decDigits]
  split <;> simp
def isD (c : UInt8) : Bool := decide (48 ≤ c.toNat ∧ c.toNat ≤ 57)
theorem itoa_nat {z : Int} (h : 0 ≤ z) : Lib.itoa z = Lib.decDigits z.toNat := by
  unfold Lib.itoa
  rw [if_neg (by omega)]
/-- Empty, or it begins with no digit. -/
def Stop (r : List UInt8) : Prop := r = [] ∨ ∃ c t, r = c :: t ∧ isD c = false
theorem digits_cut : ∀ {a b r s : List UInt8}, (∀ x ∈ a, isD x = true) → (∀ x ∈ b, isD x = true) → Stop r → Stop s → a ++ r = b ++ s → a = b ∧ r = s
  | [], [], _, _, _, _, _, _, h => ⟨rfl, h⟩
  | [], y :: b, r, s, _, hb, hr, _, h => by
    rcases hr with rfl | ⟨c, t, rfl, hc⟩
    · cases h
    · injection h with h1 _
      have := hb y (List.mem_cons_self ..)
      rw [← h1, hc] at this
      cases this
  | x :: a, [], r, s, ha, _, _, hs, h => by
    rcases hs with rfl | ⟨c, t, rfl, hc⟩
    · cases h
    · injection h with h1 _
      have := ha x (List.mem_cons_self ..)
      rw [h1, hc] at this
      cases this
  | x :: a, y :: b, r, s, ha, hb, hr, hs, h => by
    injection h with h1 h2
    obtain ⟨e1, e2⟩ := digits_cut (fun z hz => ha z (List.mem_cons_of_mem _ hz)) (fun z hz => hb z (List.mem_cons_of_mem _ hz)) hr hs h2
    exact ⟨by rw [h1, e1], e2⟩
theorem itoa_dig {z : Int} (h : 0 ≤ z) : ∀ x ∈ Lib.itoa z, isD x = true := by
  rw [itoa_nat h]
  intro x hx
  have := dec_mem _ x hx
  unfold isD
  exact decide_eq_true this
theorem itoa_inj {a b : Int} (ha : 0 ≤ a) (hb : 0 ≤ b) (h : Lib.itoa a = Lib.itoa b) : a = b := by
  rw [itoa_nat ha, itoa_nat hb] at h
  have := dec_inj h
  omega
/-- Numbers, then something that is no digit. -/
theorem num_cut {a b : Int} (ha : 0 ≤ a) (hb : 0 ≤ b) {r s : List UInt8} (hr : Stop r) (hs : Stop s) (h : Lib.itoa a ++ r = Lib.itoa b ++ s) : a = b ∧ r = s := by
  obtain ⟨h1, h2⟩ := digits_cut (itoa_dig ha) (itoa_dig hb) hr hs h
  exact ⟨itoa_inj ha hb h1, h2⟩
theorem stop_cons {c : UInt8} {t : List UInt8} (h : isD c = false) : Stop (c :: t) := .inr ⟨c, t, rfl, h⟩
def Pos3 (a : Arc3) : Prop := 0 ≤ a.1 ∧ 0 ≤ a.2.1 ∧ 0 ≤ a.2.2
theorem arcs_stop : ∀ l : List Arc3, Stop (l.flatMap arcT)
  | [] => .inl rfl
  | a :: r => by
    rw [List.flatMap_cons]
    exact stop_cons (by decide)
theorem arcs_inj : ∀ {l l' : List Arc3}, (∀ a ∈ l, Pos3 a) → (∀ a ∈ l', Pos3 a) → l.flatMap arcT = l'.flatMap arcT → l = l'
  | [], [], _, _, _ => rfl
  | [], b :: r, _, _, h => by
    rw [List.flatMap_cons] at h
    cases h
  | a :: r, [], _, _, h => by
    rw [List.flatMap_cons] at h
    cases h
  | a :: r, b :: s, ha, hb, h => by
    rw [List.flatMap_cons, List.flatMap_cons] at h
    obtain ⟨p1, p2, p3⟩ := ha a (List.mem_cons_self ..)
    obtain ⟨q1, q2, q3⟩ := hb b (List.mem_cons_self ..)
    unfold arcT at h
    simp only [List.cons_append, List.append_assoc] at h
    injection h with _ h
    obtain ⟨e1, h⟩ := num_cut p1 q1 (stop_cons (by decide)) (stop_cons (by decide)) h
    injection h with _ h
    obtain ⟨e2, h⟩ := num_cut p2 q2 (stop_cons (by decide)) (stop_cons (by decide)) h
    injection h with _ h
    obtain ⟨e3, h⟩ := num_cut p3 q3 (arcs_stop r) (arcs_stop s) h
    rw [arcs_inj (fun x hx => ha x (List.mem_cons_of_mem _ hx)) (fun x hx => hb x (List.mem_cons_of_mem _ hx)) h]
    congr 1
    exact Prod.ext e1 (Prod.ext e2 e3)
/-- The text says the class, whether it is final, and the arcs. -/
theorem sigT_inj {c c' : Int} {f f' : Bool} {l l' : List Arc3} (hc : 0 ≤ c) (hc' : 0 ≤ c') (hl : ∀ a ∈ l, Pos3 a) (hl' : ∀ a ∈ l', Pos3 a) (h : sigT c f l = sigT c' f' l') : c = c' ∧ f = f' ∧ l = l' := by
  unfold sigT at h
  rw [List.append_assoc, List.append_assoc] at h
  have stop : ∀ (f : Bool) (l : List Arc3), Stop ((if f then [33] else []) ++ l.flatMap arcT) := by
    intro f l
    cases f
    · exact arcs_stop l
    · exact stop_cons (by decide)
  obtain ⟨e1, h2⟩ := num_cut hc hc' (stop f l) (stop f' l') h
  refine ⟨e1, ?_⟩
  have hne : ∀ (l l' : List Arc3), (33 : UInt8) :: l.flatMap arcT ≠ l'.flatMap arcT := by
    intro l l' e
    cases l' with
    | nil => cases e
    | cons b s =>
      rw [List.flatMap_cons] at e
      unfold arcT at e
      injection e with e _
      exact absurd e (by decide)
  cases f <;> cases f'
  · exact ⟨rfl, arcs_inj hl hl' h2⟩
  · exact absurd h2.symm (hne l' l)
  · exact absurd h2 (hne l l')
  · refine ⟨rfl, arcs_inj hl hl' ?_⟩
    simpa using h2
theorem sigT_ne (c : Int) (f : Bool) (l : List Arc3) (hc : 0 ≤ c) : sigT c f l ≠ [] := by
  unfold sigT
  rw [itoa_nat hc]
  intro h
  have h1 := List.append_eq_nil_iff.1 h
  have h2 := List.append_eq_nil_iff.1 h1.1
  exact dec_ne _ h2.1
end Go.Proofs.YtclahhkcbkpofaaDoor
