/- Fuzzy: the ranges. -/
import Derived.Test.YtclahhkcbkpofaaDoorHFz30
namespace Go.Proofs.YtclahhkcbkpofaaDoor
open Go.RowKit
open Sp
set_option linter.unusedVariables false
set_option maxRecDepth 100000 in
set_option maxHeartbeats 8000000 in
theorem fz_k3 (wA W1 : World) (go m cpm : Nat) (f : List Int) (BL : List Lst) (n E X i wb : Nat) (hbe : BL.length = (n + 1) * (E + 1)) (HBF : Hid (FewT 0 1 BL)) (HFL : Hid (f.length = n)) (hE : E ≤ 2) (hn : n ≤ 16) (hi : i ≤ n) (hX : X ≤ 16) (HR : Hid (FzS wA W1 BL (fuzE f E X (i * (E + 1))) go m cpm)) (HW : Hid (wA.cell? ⟨wb, 0, none⟩ = some (.int .i64 ((E : Int) + 1)))) (HWB : Hid (wb < wA.heap.size)) (A : Option Addr) (cp : Nat) (HS : Hid (Sl wA wA.heap.size 1 A n (f.map (.int .i64))))
    (c0 c3 c4 c5 c6 c7 c9 c10 c13 c14 c17 c18 c19 c20 c21 c22 c23 c24 c25 c26 c27 c28 c29 c30 c31 c32 c33 c34 c35 c36 c37 c38 c39 c40 c41 c42 c43 c44 c45 c46 c47 c48 c49 c50 c51 c52 c53 c54 c55 c56 c57 c58 c59 c60 c61 c62 c63 c64 c65 c66 c67 c68 c69 c70 c71 c72 c73 c74 c75 c76 c77 c78 c79 c80 c81 c82 c83 c84 c85 c86 c87 c88 c89 c90 c91 c92 c93 c94 c95 c96 c97 c98 c99 c100 c101 c102 c103 c104 c168 c169 c170 c171 c172 u16 u107 u108 u109 u110 u111 u112 u113 u114 u115 u116 u117 u118 u119 u120 u121 u122 u123 u124 u125 u126 u127 u128 u129 u130 u131 u132 u133 u134 u135 u136 u137 u138 u139 u140 u141 u142 u143 u144 u145 u146 u147 u148 u149 u150 u151 u152 u153 u154 u155 u156 u157 u158 u159 u160 u161 u162 u163 u164 u165 u166 u167 : Value) (Q0 : Exit → Act → World → Prop) (hQ0 : ∀ c (a a' : Act) w, a.defers = a'.defers → Q0 (.panic c) a w → Q0 (.panic c) a' w)
    (hexit : ∀ (W : World) (go' m' cpm' : Nat) (x106 u16 u107 u108 u109 u110 u111 u112 u113 u114 u115 u116 u117 u118 u119 u120 u121 u122 u123 u124 u125 u126 u127 u128 u129 u130 u131 u132 u133 u134 u135 u136 u137 u138 u139 u140 u141 u142 u143 u144 u145 u146 u147 u148 u149 u150 u151 u152 u153 u154 u155 u156 u157 u158 u159 u160 u161 u162 u163 u164 u165 u166 u167 : Value), Hid (FzS wA W BL (fuzE f E X ((i + 1) * (E + 1))) go' m' cpm') → Q0 (.exit 6) ⟨List.toArray (c0 :: .int .i64 (E : Int) :: .int .i64 (X : Int) :: c3 :: c4 :: c5 :: c6 :: c7 :: .slice A n cp :: c9 :: c10 :: .slice (some ⟨go', 0, none⟩) m' cpm' :: .func (.func 48) #[] #[.pointer (some ⟨wb, 0, none⟩)] :: c13 :: c14 :: .int .i64 (i : Int) :: u16 :: c17 :: c18 :: c19 :: c20 :: c21 :: c22 :: c23 :: c24 :: c25 :: c26 :: c27 :: c28 :: c29 :: c30 :: c31 :: c32 :: c33 :: c34 :: c35 :: c36 :: c37 :: c38 :: c39 :: c40 :: c41 :: c42 :: c43 :: c44 :: c45 :: c46 :: c47 :: c48 :: c49 :: c50 :: c51 :: c52 :: c53 :: c54 :: c55 :: c56 :: c57 :: c58 :: c59 :: c60 :: c61 :: c62 :: c63 :: c64 :: c65 :: c66 :: c67 :: c68 :: c69 :: c70 :: c71 :: c72 :: c73 :: c74 :: c75 :: c76 :: c77 :: c78 :: c79 :: c80 :: c81 :: c82 :: c83 :: c84 :: c85 :: c86 :: c87 :: c88 :: c89 :: c90 :: c91 :: c92 :: c93 :: c94 :: c95 :: c96 :: c97 :: c98 :: c99 :: c100 :: c101 :: c102 :: c103 :: c104 :: .int .i64 ((E : Int) + 1) :: x106 :: u107 :: u108 :: u109 :: u110 :: u111 :: u112 :: u113 :: u114 :: u115 :: u116 :: u117 :: u118 :: u119 :: u120 :: u121 :: u122 :: u123 :: u124 :: u125 :: u126 :: u127 :: u128 :: u129 :: u130 :: u131 :: u132 :: u133 :: u134 :: u135 :: u136 :: u137 :: u138 :: u139 :: u140 :: u141 :: u142 :: u143 :: u144 :: u145 :: u146 :: u147 :: u148 :: u149 :: u150 :: u151 :: u152 :: u153 :: u154 :: u155 :: u156 :: u157 :: u158 :: u159 :: u160 :: u161 :: u162 :: u163 :: u164 :: u165 :: u166 :: u167 :: c168 :: c169 :: c170 :: c171 :: c172 :: []), []⟩ W) :
    Code.wp Tryd.prog (.loop (loopOf Tryd.f24 3)) Q0 ⟨List.toArray (c0 :: .int .i64 (E : Int) :: .int .i64 (X : Int) :: c3 :: c4 :: c5 :: c6 :: c7 :: .slice A n cp :: c9 :: c10 :: .slice (some ⟨go, 0, none⟩) m cpm :: .func (.func 48) #[] #[.pointer (some ⟨wb, 0, none⟩)] :: c13 :: c14 :: .int .i64 (i : Int) :: u16 :: c17 :: c18 :: c19 :: c20 :: c21 :: c22 :: c23 :: c24 :: c25 :: c26 :: c27 :: c28 :: c29 :: c30 :: c31 :: c32 :: c33 :: c34 :: c35 :: c36 :: c37 :: c38 :: c39 :: c40 :: c41 :: c42 :: c43 :: c44 :: c45 :: c46 :: c47 :: c48 :: c49 :: c50 :: c51 :: c52 :: c53 :: c54 :: c55 :: c56 :: c57 :: c58 :: c59 :: c60 :: c61 :: c62 :: c63 :: c64 :: c65 :: c66 :: c67 :: c68 :: c69 :: c70 :: c71 :: c72 :: c73 :: c74 :: c75 :: c76 :: c77 :: c78 :: c79 :: c80 :: c81 :: c82 :: c83 :: c84 :: c85 :: c86 :: c87 :: c88 :: c89 :: c90 :: c91 :: c92 :: c93 :: c94 :: c95 :: c96 :: c97 :: c98 :: c99 :: c100 :: c101 :: c102 :: c103 :: c104 :: .int .i64 ((E : Int) + 1) :: .int .i64 (0 : Int) :: u107 :: u108 :: u109 :: u110 :: u111 :: u112 :: u113 :: u114 :: u115 :: u116 :: u117 :: u118 :: u119 :: u120 :: u121 :: u122 :: u123 :: u124 :: u125 :: u126 :: u127 :: u128 :: u129 :: u130 :: u131 :: u132 :: u133 :: u134 :: u135 :: u136 :: u137 :: u138 :: u139 :: u140 :: u141 :: u142 :: u143 :: u144 :: u145 :: u146 :: u147 :: u148 :: u149 :: u150 :: u151 :: u152 :: u153 :: u154 :: u155 :: u156 :: u157 :: u158 :: u159 :: u160 :: u161 :: u162 :: u163 :: u164 :: u165 :: u166 :: u167 :: c168 :: c169 :: c170 :: c171 :: c172 :: []), []⟩ W1 := by
  have hmul : i * (E + 1) ≤ 48 := Nat.le_trans (Nat.mul_le_mul (show i ≤ 16 by omega) (show E + 1 ≤ 3 by omega)) (by omega)
  have HATG : Hid (∀ (W : World) (a c : Int), 0 ≤ a → a ≤ 100 → 0 ≤ c → c ≤ 100 → Below wA.heap.size wA W → Calls Tryd.prog 48 #[.int .i64 a, .int .i64 c, .pointer (some ⟨wb, 0, none⟩)] W fun e w' => e = .returned (.int .i64 (a * ((E : Int) + 1) + c)) ∧ w' = W) := fun W a c h1 h2 h3 h4 hb => by
    have := at_nat W wb a.toNat c.toNat E _ a c (by omega) (by omega) (by omega) hE (by omega) rfl ((hb.cell (p := ⟨wb, 0, none⟩) HWB.out).trans HW.out) (Nat.lt_of_lt_of_le HWB.out hb.size)
    have e : ((a.toNat * (E + 1) + c.toNat : Nat) : Int) = a * ((E : Int) + 1) + c := by
      have ha : ((a.toNat : Nat) : Int) = a := by omega
      have hc : ((c.toNat : Nat) : Int) = c := by omega
      rw [Int.natCast_add, Int.natCast_mul, ha, hc]
      rfl
    rwa [e] at this
  have hbl : BL.length ≤ 51 := by
    rw [hbe]
    exact Nat.le_trans (Nat.mul_le_mul (show n + 1 ≤ 17 by omega) (show E + 1 ≤ 3 by omega)) (by omega)
  conv => arg 2; arg 1; whnf
  go_loopw [11, 106] (fun sv kv wr => ∃ (k go m cpm : Nat), k ≤ E + 1 ∧ sv = .slice (some ⟨go, 0, none⟩) m cpm ∧ kv = .int .i64 (k : Int) ∧ Hid (FzS wA wr BL (fuzE f E X (i * (E + 1) + k)) go m cpm)) (fun _ kv _ => E + 1 - (intOf kv).toNat)
  case atStart => exact ⟨0, go, m, cpm, Nat.zero_le _, rfl, rfl, HR⟩
  case round =>
    clear HR
    obtain ⟨k, go, m, cpm, hk, rfl, rfl, HR⟩ := hrel
    by_cases hkE : k < E + 1
    · have q1 : decide ((k : Int) < (E : Int) + 1) = true := decide_eq_true (by omega)
      have q2 : decide (k < E + 1) = true := decide_eq_true hkE
      obtain ⟨j, hj⟩ : ∃ j, i * (E + 1) + k = j := ⟨_, rfl⟩
      have hjN : j < BL.length := by rw [← hj, hbe]; exact at_lt hi (by omega)
      have hjb : j ≤ 51 := by omega
      rw [hj] at HR
      have HJJ := Lib.hid hj
      have hesl := fuzE_len f E X j
      have HED : Hid (edAt f E X j = edA f[i]? j (j + E + 1) ++ (if k = E ∨ i < X then [] else (j, j + 1, 0, 1114111) :: edB f[i]? j (j + E + 2))) := by
        show _ = _
        rw [← hj, edAt_at (by omega)]
      have HSTEP : Hid (fuzE f E X (i * (E + 1) + (k + 1)) = fuzE f E X j ++ edAt f E X j) := by
        show _ = _
        rw [← Nat.add_assoc, hj, fuzE_step]
      have hji : ((i * (E + 1) + k : Nat) : Int) = (i : Int) * ((E : Int) + 1) + (k : Int) := by rw [Int.natCast_add, Int.natCast_mul]; rfl
      rw [hj] at hji
      have e1 : (i : Int) * ((E : Int) + 1) + (k : Int) = ((j : Nat) : Int) := hji.symm
      have e2 : ((i : Int) + 1) * ((E : Int) + 1) + (k : Int) = ((j + E + 1 : Nat) : Int) := by rw [Int.add_mul]; omega
      have e3 : (i : Int) * ((E : Int) + 1) + ((k : Int) + 1) = ((j + 1 : Nat) : Int) := by omega
      have e4 : ((i : Int) + 1) * ((E : Int) + 1) + ((k : Int) + 1) = ((j + E + 2 : Nat) : Int) := by rw [Int.add_mul]; omega
      have HE1 := Lib.hid e1
      have HE2 := Lib.hid e2
      have HE3 := Lib.hid e3
      have HE4 := Lib.hid e4
      have s1 : IntKind.i64.wrap ((i : Int) + 1) = (i : Int) + 1 := by rw [IntKind.wrap_i64]; omega
      have s2 : IntKind.i64.wrap ((k : Int) + 1) = (k : Int) + 1 := by rw [IntKind.wrap_i64]; omega
      clear hji e1 e2 e3 e4 hj
      have hlt1 : i < n → j + E + 2 ≤ BL.length := fun h => by
        have := at_lt2 (n := n) (E := E) (i := i) (k := k) h (by omega)
        rw [HJJ.out] at this
        rw [hbe]
        omega
      by_cases hin : i < n
      · have p7 : decide ((i : Int) < (n : Int)) = true := decide_eq_true (by omega)
        have p8 : decide (i < n) = true := decide_eq_true hin
        obtain ⟨c, hc⟩ : ∃ c, f[i]? = some c := ⟨f[i]'(by rw [HFL.out]; exact hin), List.getElem?_eq_getElem _⟩
        rw [hc] at HED
        obtain ⟨b0, off, rfl, hb0, hcl⟩ := HS.out.at_ hin
        have HCE : Hid (∀ W, Below wA.heap.size wA W → W.cell? ⟨b0, off + i, none⟩ = some (.int .i64 c) ∧ b0 < W.heap.size) := fun W hW => ⟨(hW.cell (p := ⟨b0, off + i, none⟩) hb0).trans (hcl i (.int .i64 c) (by rw [List.getElem?_map, hc]; rfl)), Nat.lt_of_lt_of_le hb0 hW.size⟩
        have HBA := Lib.hid HR.out.bel
        obtain ⟨r0, hbw⟩ := HCE.out wr HBA.out
        have HL1 : Hid (∀ W, FzS wA W BL (fuzE f E X j) go m cpm → Calls Tryd.prog 12 #[.slice (some ⟨go, 0, none⟩) m cpm, .int .i64 (j : Int), .int .i64 ((j + E + 1 : Nat) : Int), .int .i64 c, .int .i64 c] W fun e W' => ∃ go' m' cp', e = .returned (.slice (some ⟨go', 0, none⟩) m' cp') ∧ FzS wA W' BL (fuzE f E X j ++ [(j, j + E + 1, c, c)]) go' m' cp') := fun W h => fz_lead h HBF.out (by omega) (by omega) j (j + E + 1) hjN (by have := hlt1 hin; omega) c c
        clear hc hcl
        go_wp2_with fail
        go_region_held3 (fun w' => w'.cell? ⟨b0, off + i, none⟩ = some (.int .i64 c))
          (first
            | assumption
            | exact r0
            | (refine (HCE.out _ ?_).1; (repeat (first | exact HBA.out | exact HR2.out.bel | refine Below.drew ?_)); done))
          (first
            | (go_at_call 48
               refine (HATG.out _ _ _ (by omega) (by omega) (by omega) (by omega) (by repeat (first | exact HBA.out | refine Below.drew ?_))).mono ?_
               rintro e w4 ⟨rfl, rfl⟩
               first | rw [HE1.out] | rw [HE2.out])
            | (go_at_call 12
               refine (HL1.out _ (by repeat (first | exact HR.out | refine FzS.drew ?_))).mono ?_
               rintro e w5 ⟨go2, m2, cp2, rfl, hr2⟩
               have HR2 := Lib.hid hr2
               clear hr2))
        clear HL1 HR r0
        by_cases hstop : k = E ∨ i < X
        · have HRN : Hid (FzS wA w5 BL (fuzE f E X (i * (E + 1) + (k + 1))) go2 m2 cp2) := by
            show FzS _ _ _ _ _ _ _
            rw [HSTEP.out, HED.out, if_pos hstop, List.append_nil]
            exact HR2.out
          clear HR2 HED HSTEP
          rcases hstop with h | h
          · have p1 : ((k : Int) == (E : Int)) = true := by rw [beq_iff_eq, h]
            have p2 : (k == E) = true := by rw [beq_iff_eq]; exact h
            clear h
            go_wp2_with fail
            go_roundw
            case rel => exact ⟨k + 1, go2, m2, cp2, by omega, rfl, by go_num, HRN⟩
            case measure => first | (simp [intOf]; done) | (simp [intOf]; omega)
          · by_cases h2 : k = E
            · have p1 : ((k : Int) == (E : Int)) = true := by rw [beq_iff_eq, h2]
              have p2 : (k == E) = true := by rw [beq_iff_eq]; exact h2
              clear h h2
              go_wp2_with fail
              go_roundw
              case rel => exact ⟨k + 1, go2, m2, cp2, by omega, rfl, by go_num, HRN⟩
              case measure => first | (simp [intOf]; done) | (simp [intOf]; omega)
            · have p1 : ((k : Int) == (E : Int)) = false := by rw [beq_eq_false_iff_ne]; omega
              have p2 : (k == E) = false := by rw [beq_eq_false_iff_ne]; exact h2
              have p3 : decide ((i : Int) < (X : Int)) = true := decide_eq_true (by omega)
              have p4 : decide (i < X) = true := decide_eq_true h
              clear h h2
              go_wp2_with fail
              go_roundw
              case rel => exact ⟨k + 1, go2, m2, cp2, by omega, rfl, by go_num, HRN⟩
              case measure => first | (simp [intOf]; done) | (simp [intOf]; omega)
        · have HNS := Lib.hid hstop
          have p1 : ((k : Int) == (E : Int)) = false := by rw [beq_eq_false_iff_ne]; omega
          have p2 : (k == E) = false := by rw [beq_eq_false_iff_ne]; omega
          have p3 : decide ((i : Int) < (X : Int)) = false := decide_eq_false (by omega)
          have p4 : decide (i < X) = false := decide_eq_false (by omega)
          have hk1 : k < E := by omega
          have hx1 : X ≤ i := by omega
          have HB5 := Lib.hid HR2.out.bel
          have HA1 : Hid (∀ W, W = w5 → Calls Tryd.prog 48 #[.int .i64 (i : Int), .int .i64 (k : Int), .pointer (some ⟨wb, 0, none⟩)] W fun e w' => e = .returned (.int .i64 (j : Int)) ∧ w' = W) := by
            rintro W rfl
            have := HATG.out W (i : Int) (k : Int) (by omega) (by omega) (by omega) (by omega) HB5.out
            rwa [HE1.out] at this
          have HA3 : Hid (∀ W, W = w5 → Calls Tryd.prog 48 #[.int .i64 (i : Int), .int .i64 ((k : Int) + 1), .pointer (some ⟨wb, 0, none⟩)] W fun e w' => e = .returned (.int .i64 ((j + 1 : Nat) : Int)) ∧ w' = W) := by
            rintro W rfl
            have := HATG.out W (i : Int) ((k : Int) + 1) (by omega) (by omega) (by omega) (by omega) HB5.out
            rwa [HE3.out] at this
          have hjn1 : j + 1 < BL.length := by
            have := at_lt (n := n) (E := E) (i := i) (k := k + 1) hi (by omega)
            rw [hbe, ← HJJ.out]
            omega
          have HL2 := Lib.hid (fz_lead HR2.out HBF.out (by omega) (by rw [List.length_append]; simp; omega) j (j + 1) hjN hjn1 0 1114111)
          have ec1 : ((j + 1 : Nat) : Int) = (j : Int) + 1 := by omega
          rw [ec1] at HL2
          clear hk1 hx1 ec1
          go_wp2_with fail
          refine (HA1.out _ rfl).mono ?_
          rintro e w9 ⟨rfl, rfl⟩
          go_wp2_with fail
          refine (HA3.out _ rfl).mono ?_
          rintro e w9 ⟨rfl, rfl⟩
          go_wp2_with fail
          refine HL2.out.mono ?_
          rintro e w10 ⟨go3, m3, cp3, rfl, hr3⟩
          have HR3 := Lib.hid hr3
          have HB6 := Lib.hid hr3.bel
          clear hr3 HL2 HA1 HA3 HR2 HB5
          have HA1 : Hid (∀ W, W = w10 → Calls Tryd.prog 48 #[.int .i64 (i : Int), .int .i64 (k : Int), .pointer (some ⟨wb, 0, none⟩)] W fun e w' => e = .returned (.int .i64 (j : Int)) ∧ w' = W) := by
            rintro W rfl
            have := HATG.out W (i : Int) (k : Int) (by omega) (by omega) (by omega) (by omega) HB6.out
            rwa [HE1.out] at this
          have HA4 : Hid (∀ W, W = w10 → Calls Tryd.prog 48 #[.int .i64 ((i : Int) + 1), .int .i64 ((k : Int) + 1), .pointer (some ⟨wb, 0, none⟩)] W fun e w' => e = .returned (.int .i64 ((j + E + 2 : Nat) : Int)) ∧ w' = W) := by
            rintro W rfl
            have := HATG.out W ((i : Int) + 1) ((k : Int) + 1) (by omega) (by omega) (by omega) (by omega) HB6.out
            rwa [HE4.out] at this
          have hjn2 : j + E + 2 < BL.length := by
            have := at_lt (n := n) (E := E) (i := i + 1) (k := k + 1) (by omega) (by omega)
            have h2 := HJJ.out
            rw [Nat.add_mul, Nat.one_mul] at this
            rw [hbe]
            omega
          have HL3 := Lib.hid (fz_lead HR3.out HBF.out (by omega) (by rw [List.length_append, List.length_append]; simp; omega) j (j + E + 2) hjN hjn2 0 1114111)
          have ec2 : ((j + E + 2 : Nat) : Int) = (j : Int) + (E : Int) + 2 := by omega
          rw [ec2] at HL3
          clear ec2
          go_wp2_with fail
          refine (HA1.out _ rfl).mono ?_
          rintro e w11 ⟨rfl, rfl⟩
          go_wp2_with fail
          refine (HA4.out _ rfl).mono ?_
          rintro e w11 ⟨rfl, rfl⟩
          go_wp2_with fail
          refine HL3.out.mono ?_
          rintro e w12 ⟨go4, m4, cp4, rfl, hr4⟩
          have HRN : Hid (FzS wA w12 BL (fuzE f E X (i * (E + 1) + (k + 1))) go4 m4 cp4) := by
            show FzS _ _ _ _ _ _ _
            rw [HSTEP.out, HED.out, if_neg HNS.out]
            rw [List.append_assoc, List.append_assoc] at hr4
            exact hr4
          clear hr4 HL3 HA1 HA4 HR3 HB6 HED HSTEP
          go_wp2_with fail
          go_roundw
          case rel => exact ⟨k + 1, go4, m4, cp4, by omega, rfl, by go_num, HRN⟩
          case measure => first | (simp [intOf]; done) | (simp [intOf]; omega)
      · have p7 : decide ((i : Int) < (n : Int)) = false := decide_eq_false (by omega)
        have p8 : decide (i < n) = false := decide_eq_false hin
        have hc : f[i]? = none := List.getElem?_eq_none (by rw [HFL.out]; omega)
        rw [hc] at HED
        clear hc
        by_cases hstop : k = E ∨ i < X
        · have HRN : Hid (FzS wA wr BL (fuzE f E X (i * (E + 1) + (k + 1))) go m cpm) := by
            show FzS _ _ _ _ _ _ _
            rw [HSTEP.out, HED.out, if_pos hstop, List.append_nil]
            show FzS _ _ _ (_ ++ []) _ _ _
            rw [List.append_nil]
            exact HR.out
          clear HR HED HSTEP
          rcases hstop with h | h
          · have p1 : ((k : Int) == (E : Int)) = true := by rw [beq_iff_eq, h]
            have p2 : (k == E) = true := by rw [beq_iff_eq]; exact h
            clear h
            go_wp2_with fail
            go_roundw
            case rel => exact ⟨k + 1, go, m, cpm, by omega, rfl, by go_num, HRN⟩
            case measure => first | (simp [intOf]; done) | (simp [intOf]; omega)
          · by_cases h2 : k = E
            · have p1 : ((k : Int) == (E : Int)) = true := by rw [beq_iff_eq, h2]
              have p2 : (k == E) = true := by rw [beq_iff_eq]; exact h2
              clear h h2
              go_wp2_with fail
              go_roundw
              case rel => exact ⟨k + 1, go, m, cpm, by omega, rfl, by go_num, HRN⟩
              case measure => first | (simp [intOf]; done) | (simp [intOf]; omega)
            · have p1 : ((k : Int) == (E : Int)) = false := by rw [beq_eq_false_iff_ne]; omega
              have p2 : (k == E) = false := by rw [beq_eq_false_iff_ne]; exact h2
              have p3 : decide ((i : Int) < (X : Int)) = true := decide_eq_true (by omega)
              have p4 : decide (i < X) = true := decide_eq_true h
              clear h h2
              go_wp2_with fail
              go_roundw
              case rel => exact ⟨k + 1, go, m, cpm, by omega, rfl, by go_num, HRN⟩
              case measure => first | (simp [intOf]; done) | (simp [intOf]; omega)
        · have HNS := Lib.hid hstop
          have p1 : ((k : Int) == (E : Int)) = false := by rw [beq_eq_false_iff_ne]; omega
          have p2 : (k == E) = false := by rw [beq_eq_false_iff_ne]; omega
          have p3 : decide ((i : Int) < (X : Int)) = false := decide_eq_false (by omega)
          have p4 : decide (i < X) = false := decide_eq_false (by omega)
          have hk1 : k < E := by omega
          have hx1 : X ≤ i := by omega
          have HB5 := Lib.hid HR.out.bel
          have HA1 : Hid (∀ W, W = wr → Calls Tryd.prog 48 #[.int .i64 (i : Int), .int .i64 (k : Int), .pointer (some ⟨wb, 0, none⟩)] W fun e w' => e = .returned (.int .i64 (j : Int)) ∧ w' = W) := by
            rintro W rfl
            have := HATG.out W (i : Int) (k : Int) (by omega) (by omega) (by omega) (by omega) HB5.out
            rwa [HE1.out] at this
          have HA3 : Hid (∀ W, W = wr → Calls Tryd.prog 48 #[.int .i64 (i : Int), .int .i64 ((k : Int) + 1), .pointer (some ⟨wb, 0, none⟩)] W fun e w' => e = .returned (.int .i64 ((j + 1 : Nat) : Int)) ∧ w' = W) := by
            rintro W rfl
            have := HATG.out W (i : Int) ((k : Int) + 1) (by omega) (by omega) (by omega) (by omega) HB5.out
            rwa [HE3.out] at this
          have hjn1 : j + 1 < BL.length := by
            have := at_lt (n := n) (E := E) (i := i) (k := k + 1) hi (by omega)
            rw [hbe, ← HJJ.out]
            omega
          have HL2 := Lib.hid (fz_lead HR.out HBF.out (by omega) (by omega) j (j + 1) hjN hjn1 0 1114111)
          have ec1 : ((j + 1 : Nat) : Int) = (j : Int) + 1 := by omega
          rw [ec1] at HL2
          clear hk1 hx1 ec1
          go_wp2_with fail
          refine (HA1.out _ rfl).mono ?_
          rintro e w9 ⟨rfl, rfl⟩
          go_wp2_with fail
          refine (HA3.out _ rfl).mono ?_
          rintro e w9 ⟨rfl, rfl⟩
          go_wp2_with fail
          refine HL2.out.mono ?_
          rintro e w10 ⟨go3, m3, cp3, rfl, hr3⟩
          have HRN : Hid (FzS wA w10 BL (fuzE f E X (i * (E + 1) + (k + 1))) go3 m3 cp3) := by
            show FzS _ _ _ _ _ _ _
            rw [HSTEP.out, HED.out, if_neg HNS.out]
            exact hr3
          clear hr3 HL2 HA1 HA3 HR HB5 HED HSTEP
          go_wp2_with fail
          go_roundw
          case rel => exact ⟨k + 1, go3, m3, cp3, by omega, rfl, by go_num, HRN⟩
          case measure => first | (simp [intOf]; done) | (simp [intOf]; omega)
    · obtain rfl : k = E + 1 := by omega
      have q1 : decide (((E + 1 : Nat) : Int) < (E : Int) + 1) = false := decide_eq_false (by omega)
      have q2 : decide (E + 1 < E + 1) = false := decide_eq_false (by omega)
      have HR2 : Hid (FzS wA wr BL (fuzE f E X ((i + 1) * (E + 1))) go m cpm) := by
        have := HR.out
        rw [Nat.add_mul, Nat.one_mul]
        exact this
      clear HR
      go_wp2_with fail
      first | exact HR2 | exact hexit wr go m cpm _ _ _ _ _ _ _ _ _ _ _ _ _ _ _ _ _ _ _ _ _ _ _ _ _ _ _ _ _ _ _ _ _ _ _ _ _ _ _ _ _ _ _ _ _ _ _ _ _ _ _ _ _ _ _ _ _ _ _ _ _ _ _ HR2
set_option maxRecDepth 100000 in
set_option maxHeartbeats 8000000 in
theorem fz_i3 (wA W1 : World) (go m cpm : Nat) (f : List Int) (BL : List Lst) (n E X wb : Nat) (hbe : BL.length = (n + 1) * (E + 1)) (HBF : Hid (FewT 0 1 BL)) (HFL : Hid (f.length = n)) (hE : E ≤ 2) (hn : n ≤ 16) (hX : X ≤ 16) (HR : Hid (FzS wA W1 BL [] go m cpm)) (HW : Hid (wA.cell? ⟨wb, 0, none⟩ = some (.int .i64 ((E : Int) + 1)))) (HWB : Hid (wb < wA.heap.size)) (A : Option Addr) (cp : Nat) (HS : Hid (Sl wA wA.heap.size 1 A n (f.map (.int .i64))))
    (c0 c3 c4 c5 c6 c7 c9 c13 c14 c17 c18 c19 c20 c21 c22 c23 c24 c25 c26 c27 c28 c29 c30 c31 c32 c33 c34 c35 c36 c37 c38 c39 c40 c41 c42 c43 c44 c45 c46 c47 c48 c49 c50 c51 c52 c53 c54 c55 c56 c57 c58 c59 c60 c61 c62 c63 c64 c65 c66 c67 c68 c69 c70 c71 c72 c73 c74 c75 c76 c77 c78 c79 c80 c81 c82 c83 c84 c85 c86 c87 c88 c89 c90 c91 c92 c93 c94 c95 c96 c97 c98 c99 c100 c169 c170 c171 c172 u15 u16 u103 u104 u105 u106 u107 u108 u109 u110 u111 u112 u113 u114 u115 u116 u117 u118 u119 u120 u121 u122 u123 u124 u125 u126 u127 u128 u129 u130 u131 u132 u133 u134 u135 u136 u137 u138 u139 u140 u141 u142 u143 u144 u145 u146 u147 u148 u149 u150 u151 u152 u153 u154 u155 u156 u157 u158 u159 u160 u161 u162 u163 u164 u165 u166 u167 u168 : Value) (Q0 : Exit → Act → World → Prop) (hQ0 : ∀ c (a a' : Act) w, a.defers = a'.defers → Q0 (.panic c) a w → Q0 (.panic c) a' w)
    (hexit : ∀ (W : World) (go' m' cpm' : Nat) (x102 u15 u16 u103 u104 u105 u106 u107 u108 u109 u110 u111 u112 u113 u114 u115 u116 u117 u118 u119 u120 u121 u122 u123 u124 u125 u126 u127 u128 u129 u130 u131 u132 u133 u134 u135 u136 u137 u138 u139 u140 u141 u142 u143 u144 u145 u146 u147 u148 u149 u150 u151 u152 u153 u154 u155 u156 u157 u158 u159 u160 u161 u162 u163 u164 u165 u166 u167 u168 : Value), Hid (FzS wA W BL (fuzE f E X ((n + 1) * (E + 1))) go' m' cpm') → Q0 (.exit 4) ⟨List.toArray (c0 :: .int .i64 (E : Int) :: .int .i64 (X : Int) :: c3 :: c4 :: c5 :: c6 :: c7 :: .slice A n cp :: c9 :: .pointer (some ⟨wb, 0, none⟩) :: .slice (some ⟨go', 0, none⟩) m' cpm' :: .func (.func 48) #[] #[.pointer (some ⟨wb, 0, none⟩)] :: c13 :: c14 :: u15 :: u16 :: c17 :: c18 :: c19 :: c20 :: c21 :: c22 :: c23 :: c24 :: c25 :: c26 :: c27 :: c28 :: c29 :: c30 :: c31 :: c32 :: c33 :: c34 :: c35 :: c36 :: c37 :: c38 :: c39 :: c40 :: c41 :: c42 :: c43 :: c44 :: c45 :: c46 :: c47 :: c48 :: c49 :: c50 :: c51 :: c52 :: c53 :: c54 :: c55 :: c56 :: c57 :: c58 :: c59 :: c60 :: c61 :: c62 :: c63 :: c64 :: c65 :: c66 :: c67 :: c68 :: c69 :: c70 :: c71 :: c72 :: c73 :: c74 :: c75 :: c76 :: c77 :: c78 :: c79 :: c80 :: c81 :: c82 :: c83 :: c84 :: c85 :: c86 :: c87 :: c88 :: c89 :: c90 :: c91 :: c92 :: c93 :: c94 :: c95 :: c96 :: c97 :: c98 :: c99 :: c100 :: .int .i64 ((n : Int) + 1) :: x102 :: u103 :: u104 :: u105 :: u106 :: u107 :: u108 :: u109 :: u110 :: u111 :: u112 :: u113 :: u114 :: u115 :: u116 :: u117 :: u118 :: u119 :: u120 :: u121 :: u122 :: u123 :: u124 :: u125 :: u126 :: u127 :: u128 :: u129 :: u130 :: u131 :: u132 :: u133 :: u134 :: u135 :: u136 :: u137 :: u138 :: u139 :: u140 :: u141 :: u142 :: u143 :: u144 :: u145 :: u146 :: u147 :: u148 :: u149 :: u150 :: u151 :: u152 :: u153 :: u154 :: u155 :: u156 :: u157 :: u158 :: u159 :: u160 :: u161 :: u162 :: u163 :: u164 :: u165 :: u166 :: u167 :: u168 :: c169 :: c170 :: c171 :: c172 :: []), []⟩ W) :
    Code.wp Tryd.prog (.loop (loopOf Tryd.f24 2)) Q0 ⟨List.toArray (c0 :: .int .i64 (E : Int) :: .int .i64 (X : Int) :: c3 :: c4 :: c5 :: c6 :: c7 :: .slice A n cp :: c9 :: .pointer (some ⟨wb, 0, none⟩) :: .slice (some ⟨go, 0, none⟩) m cpm :: .func (.func 48) #[] #[.pointer (some ⟨wb, 0, none⟩)] :: c13 :: c14 :: u15 :: u16 :: c17 :: c18 :: c19 :: c20 :: c21 :: c22 :: c23 :: c24 :: c25 :: c26 :: c27 :: c28 :: c29 :: c30 :: c31 :: c32 :: c33 :: c34 :: c35 :: c36 :: c37 :: c38 :: c39 :: c40 :: c41 :: c42 :: c43 :: c44 :: c45 :: c46 :: c47 :: c48 :: c49 :: c50 :: c51 :: c52 :: c53 :: c54 :: c55 :: c56 :: c57 :: c58 :: c59 :: c60 :: c61 :: c62 :: c63 :: c64 :: c65 :: c66 :: c67 :: c68 :: c69 :: c70 :: c71 :: c72 :: c73 :: c74 :: c75 :: c76 :: c77 :: c78 :: c79 :: c80 :: c81 :: c82 :: c83 :: c84 :: c85 :: c86 :: c87 :: c88 :: c89 :: c90 :: c91 :: c92 :: c93 :: c94 :: c95 :: c96 :: c97 :: c98 :: c99 :: c100 :: .int .i64 ((n : Int) + 1) :: .int .i64 (0 : Int) :: u103 :: u104 :: u105 :: u106 :: u107 :: u108 :: u109 :: u110 :: u111 :: u112 :: u113 :: u114 :: u115 :: u116 :: u117 :: u118 :: u119 :: u120 :: u121 :: u122 :: u123 :: u124 :: u125 :: u126 :: u127 :: u128 :: u129 :: u130 :: u131 :: u132 :: u133 :: u134 :: u135 :: u136 :: u137 :: u138 :: u139 :: u140 :: u141 :: u142 :: u143 :: u144 :: u145 :: u146 :: u147 :: u148 :: u149 :: u150 :: u151 :: u152 :: u153 :: u154 :: u155 :: u156 :: u157 :: u158 :: u159 :: u160 :: u161 :: u162 :: u163 :: u164 :: u165 :: u166 :: u167 :: u168 :: c169 :: c170 :: c171 :: c172 :: []), []⟩ W1 := by
  have HWK : Hid (∀ W, Below wA.heap.size wA W → W.cell? ⟨wb, 0, none⟩ = some (.int .i64 ((E : Int) + 1)) ∧ wb < W.heap.size) := fun W hb => ⟨(hb.cell (p := ⟨wb, 0, none⟩) HWB.out).trans HW.out, Nat.lt_of_lt_of_le HWB.out hb.size⟩
  conv => arg 2; arg 1; whnf
  go_loopw [11, 102] (fun sv iv wr => ∃ (i go m cpm : Nat), i ≤ n + 1 ∧ sv = .slice (some ⟨go, 0, none⟩) m cpm ∧ iv = .int .i64 (i : Int) ∧ Hid (FzS wA wr BL (fuzE f E X (i * (E + 1))) go m cpm)) (fun _ iv _ => n + 1 - (intOf iv).toNat)
  case atStart => exact ⟨0, go, m, cpm, Nat.zero_le _, rfl, rfl, by rw [Nat.zero_mul]; exact HR⟩
  case round =>
    clear HR
    obtain ⟨i, go, m, cpm, hi, rfl, rfl, HR⟩ := hrel
    by_cases hin : i < n + 1
    · have q1 : decide ((i : Int) < (n : Int) + 1) = true := decide_eq_true (by omega)
      have q2 : decide (i < n + 1) = true := decide_eq_true hin
      obtain ⟨k0, hwb⟩ := HWK.out wr HR.out.bel
      go_wp2_with fail
      refine fz_k3 wA wr go m cpm f BL n E X i wb hbe HBF HFL hE hn (by omega) hX HR HW HWB A cp HS _ _ _ _ _ _ _ _ _ _ _ _ _ _ _ _ _ _ _ _ _ _ _ _ _ _ _ _ _ _ _ _ _ _ _ _ _ _ _ _ _ _ _ _ _ _ _ _ _ _ _ _ _ _ _ _ _ _ _ _ _ _ _ _ _ _ _ _ _ _ _ _ _ _ _ _ _ _ _ _ _ _ _ _ _ _ _ _ _ _ _ _ _ _ _ _ _ _ _ _ _ _ _ _ _ _ _ _ _ _ _ _ _ _ _ _ _ _ _ _ _ _ _ _ _ _ _ _ _ _ _ _ _ _ _ _ _ _ _ _ _ _ _ _ _ _ _ _ _ _ _ _ _ _ _ _ _ _ _ _ _ _ _ _ _ _ (fun c a a' w hd h => hQ0 c a a' w hd h) ?_
      intro W go' m' cpm' x106 u16 u107 u108 u109 u110 u111 u112 u113 u114 u115 u116 u117 u118 u119 u120 u121 u122 u123 u124 u125 u126 u127 u128 u129 u130 u131 u132 u133 u134 u135 u136 u137 u138 u139 u140 u141 u142 u143 u144 u145 u146 u147 u148 u149 u150 u151 u152 u153 u154 u155 u156 u157 u158 u159 u160 u161 u162 u163 u164 u165 u166 u167 HR2
      clear HR k0 hwb
      go_wp2_with fail
      go_roundw
      case rel => exact ⟨i + 1, go', m', cpm', by omega, rfl, by go_num, HR2⟩
      case measure => first | (simp [intOf]; done) | (simp [intOf]; omega)
    · obtain rfl : i = n + 1 := by omega
      have q1 : decide (((n + 1 : Nat) : Int) < (n : Int) + 1) = false := decide_eq_false (by omega)
      have q2 : decide (n + 1 < n + 1) = false := decide_eq_false (by omega)
      go_wp2_with fail
      first | exact HR | exact hexit wr go m cpm _ _ _ _ _ _ _ _ _ _ _ _ _ _ _ _ _ _ _ _ _ _ _ _ _ _ _ _ _ _ _ _ _ _ _ _ _ _ _ _ _ _ _ _ _ _ _ _ _ _ _ _ _ _ _ _ _ _ _ _ _ _ _ _ _ _ _ _ _ HR
end Go.Proofs.YtclahhkcbkpofaaDoor
