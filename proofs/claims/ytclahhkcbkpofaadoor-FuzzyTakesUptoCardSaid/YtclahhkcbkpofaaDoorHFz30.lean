/- Fuzzy: the states. -/
import Derived.Test.YtclahhkcbkpofaaDoorHFz29
import Derived.Test.YtclahhkcbkpofaaDoorHFz20
namespace Go.Proofs.YtclahhkcbkpofaaDoor
open Go.RowKit
open Sp
set_option linter.unusedVariables false
/-- The number of a place with so many edits, by the closure. -/
theorem at_nat (w : World) (b : Nat) (i k E r : Nat) (a c : Int) (ha : a = (i : Int)) (hc : c = (k : Int)) (hi : i ≤ 100) (hE : E ≤ 2) (hk : k ≤ 100) (hr : i * (E + 1) + k = r) (hb : w.cell? ⟨b, 0, none⟩ = some (.int .i64 ((E : Int) + 1))) (hbw : b < w.heap.size) :
    Calls Tryd.prog 48 #[.int .i64 a, .int .i64 c, .pointer (some ⟨b, 0, none⟩)] w fun e w' => e = .returned (.int .i64 (r : Int)) ∧ w' = w := by
  have hp : a * ((E : Int) + 1) = ((i * (E + 1) : Nat) : Int) := by rw [ha]; push_cast; rfl
  have hb1 : i * (E + 1) ≤ 300 := Nat.le_trans (Nat.mul_le_mul hi (show E + 1 ≤ 3 by omega)) (by omega)
  refine at_any w b a c ((E : Int) + 1) r hb hbw ?_ ?_
  · rw [hp, IntKind.wrap_i64]; omega
  · rw [hp, hc, IntKind.wrap_i64]; omega
set_option maxRecDepth 100000 in
set_option maxHeartbeats 8000000 in
theorem fz_k1 (w0 W1 : World) (go N cpN : Nat) (hs : List Lsh) (HR : Hid (LoR w0 W1 (.slice (some ⟨go, 0, none⟩) N cpN) N hs)) (n E X i wb : Nat) (hE : E ≤ 2) (hn : n ≤ 16) (hi : i ≤ n) (hX : X ≤ 16) (HN : Hid (N = (n + 1) * (E + 1))) (HW : Hid (w0.cell? ⟨wb, 0, none⟩ = some (.int .i64 ((E : Int) + 1)))) (HWB : Hid (wb < w0.heap.size)) (HM : Hid (hs.map (·.d) = fuzL n E X (i * (E + 1)))) (A : Option Addr) (cp : Nat)
    (c0 c3 c4 c5 c6 c7 c9 c10 c15 c16 c17 c18 c19 c20 c21 c22 c23 c24 c25 c26 c27 c28 c29 c30 c31 c32 c33 c34 c35 c36 c37 c38 c39 c40 c41 c42 c43 c44 c45 c46 c47 c48 c49 c50 c51 c52 c53 c54 c55 c98 c99 c100 c101 c102 c103 c104 c105 c106 c107 c108 c109 c110 c111 c112 c113 c114 c115 c116 c117 c118 c119 c120 c121 c122 c123 c124 c125 c126 c127 c128 c129 c130 c131 c132 c133 c134 c135 c136 c137 c138 c139 c140 c141 c142 c143 c144 c145 c146 c147 c148 c149 c150 c151 c152 c153 c154 c155 c156 c157 c158 c159 c160 c161 c162 c163 c164 c165 c166 c167 c168 c169 c170 c171 c172 u14 u58 u59 u60 u61 u62 u63 u64 u65 u66 u67 u68 u69 u70 u71 u72 u73 u74 u75 u76 u77 u78 u79 u80 u81 u82 u83 u84 u85 u86 u87 u88 u89 u90 u91 u92 u93 u94 u95 u96 u97 : Value) (Q0 : Exit → Act → World → Prop) (hQ0 : ∀ c (a a' : Act) w, a.defers = a'.defers → Q0 (.panic c) a w → Q0 (.panic c) a' w)
    (hexit : ∀ (W : World) (hs' : List Lsh) (x57 u14 u58 u59 u60 u61 u62 u63 u64 u65 u66 u67 u68 u69 u70 u71 u72 u73 u74 u75 u76 u77 u78 u79 u80 u81 u82 u83 u84 u85 u86 u87 u88 u89 u90 u91 u92 u93 u94 u95 u96 u97 : Value), Hid (LoR w0 W (.slice (some ⟨go, 0, none⟩) N cpN) N hs') → Hid (hs'.map (·.d) = fuzL n E X ((i + 1) * (E + 1))) → Q0 (.exit 2) ⟨List.toArray (c0 :: .int .i64 (E : Int) :: .int .i64 (X : Int) :: c3 :: c4 :: c5 :: c6 :: c7 :: .slice A n cp :: c9 :: c10 :: .slice (some ⟨go, 0, none⟩) N cpN :: .func (.func 48) #[] #[.pointer (some ⟨wb, 0, none⟩)] :: .int .i64 (i : Int) :: u14 :: c15 :: c16 :: c17 :: c18 :: c19 :: c20 :: c21 :: c22 :: c23 :: c24 :: c25 :: c26 :: c27 :: c28 :: c29 :: c30 :: c31 :: c32 :: c33 :: c34 :: c35 :: c36 :: c37 :: c38 :: c39 :: c40 :: c41 :: c42 :: c43 :: c44 :: c45 :: c46 :: c47 :: c48 :: c49 :: c50 :: c51 :: c52 :: c53 :: c54 :: c55 :: .int .i64 ((E : Int) + 1) :: x57 :: u58 :: u59 :: u60 :: u61 :: u62 :: u63 :: u64 :: u65 :: u66 :: u67 :: u68 :: u69 :: u70 :: u71 :: u72 :: u73 :: u74 :: u75 :: u76 :: u77 :: u78 :: u79 :: u80 :: u81 :: u82 :: u83 :: u84 :: u85 :: u86 :: u87 :: u88 :: u89 :: u90 :: u91 :: u92 :: u93 :: u94 :: u95 :: u96 :: u97 :: c98 :: c99 :: c100 :: c101 :: c102 :: c103 :: c104 :: c105 :: c106 :: c107 :: c108 :: c109 :: c110 :: c111 :: c112 :: c113 :: c114 :: c115 :: c116 :: c117 :: c118 :: c119 :: c120 :: c121 :: c122 :: c123 :: c124 :: c125 :: c126 :: c127 :: c128 :: c129 :: c130 :: c131 :: c132 :: c133 :: c134 :: c135 :: c136 :: c137 :: c138 :: c139 :: c140 :: c141 :: c142 :: c143 :: c144 :: c145 :: c146 :: c147 :: c148 :: c149 :: c150 :: c151 :: c152 :: c153 :: c154 :: c155 :: c156 :: c157 :: c158 :: c159 :: c160 :: c161 :: c162 :: c163 :: c164 :: c165 :: c166 :: c167 :: c168 :: c169 :: c170 :: c171 :: c172 :: []), []⟩ W) :
    Code.wp Tryd.prog (.loop (loopOf Tryd.f24 1)) Q0 ⟨List.toArray (c0 :: .int .i64 (E : Int) :: .int .i64 (X : Int) :: c3 :: c4 :: c5 :: c6 :: c7 :: .slice A n cp :: c9 :: c10 :: .slice (some ⟨go, 0, none⟩) N cpN :: .func (.func 48) #[] #[.pointer (some ⟨wb, 0, none⟩)] :: .int .i64 (i : Int) :: u14 :: c15 :: c16 :: c17 :: c18 :: c19 :: c20 :: c21 :: c22 :: c23 :: c24 :: c25 :: c26 :: c27 :: c28 :: c29 :: c30 :: c31 :: c32 :: c33 :: c34 :: c35 :: c36 :: c37 :: c38 :: c39 :: c40 :: c41 :: c42 :: c43 :: c44 :: c45 :: c46 :: c47 :: c48 :: c49 :: c50 :: c51 :: c52 :: c53 :: c54 :: c55 :: .int .i64 ((E : Int) + 1) :: .int .i64 (0 : Int) :: u58 :: u59 :: u60 :: u61 :: u62 :: u63 :: u64 :: u65 :: u66 :: u67 :: u68 :: u69 :: u70 :: u71 :: u72 :: u73 :: u74 :: u75 :: u76 :: u77 :: u78 :: u79 :: u80 :: u81 :: u82 :: u83 :: u84 :: u85 :: u86 :: u87 :: u88 :: u89 :: u90 :: u91 :: u92 :: u93 :: u94 :: u95 :: u96 :: u97 :: c98 :: c99 :: c100 :: c101 :: c102 :: c103 :: c104 :: c105 :: c106 :: c107 :: c108 :: c109 :: c110 :: c111 :: c112 :: c113 :: c114 :: c115 :: c116 :: c117 :: c118 :: c119 :: c120 :: c121 :: c122 :: c123 :: c124 :: c125 :: c126 :: c127 :: c128 :: c129 :: c130 :: c131 :: c132 :: c133 :: c134 :: c135 :: c136 :: c137 :: c138 :: c139 :: c140 :: c141 :: c142 :: c143 :: c144 :: c145 :: c146 :: c147 :: c148 :: c149 :: c150 :: c151 :: c152 :: c153 :: c154 :: c155 :: c156 :: c157 :: c158 :: c159 :: c160 :: c161 :: c162 :: c163 :: c164 :: c165 :: c166 :: c167 :: c168 :: c169 :: c170 :: c171 :: c172 :: []), []⟩ W1 := by
  have hmul : i * (E + 1) ≤ 48 := Nat.le_trans (Nat.mul_le_mul (show i ≤ 16 by omega) (show E + 1 ≤ 3 by omega)) (by omega)
  have HAT : Hid (∀ (W : World) (i' k r : Nat) (a c : Int), a = (i' : Int) → c = (k : Int) → i' ≤ 100 → k ≤ 100 → i' * (E + 1) + k = r → Below w0.heap.size w0 W → Calls Tryd.prog 48 #[.int .i64 a, .int .i64 c, .pointer (some ⟨wb, 0, none⟩)] W fun e w' => e = .returned (.int .i64 (r : Int)) ∧ w' = W) := fun W i' k r a c ha hc h1 h2 h3 hb => at_nat W wb i' k E r a c ha hc h1 hE h2 h3 ((hb.cell (p := ⟨wb, 0, none⟩) HWB.out).trans HW.out) (Nat.lt_of_lt_of_le HWB.out hb.size)
  conv => arg 2; arg 1; whnf
  go_loopw [57] (fun kv wr => ∃ (k : Nat) (hs : List Lsh), k ≤ E + 1 ∧ kv = .int .i64 (k : Int) ∧ Hid (LoR w0 wr (.slice (some ⟨go, 0, none⟩) N cpN) N hs) ∧ Hid (hs.map (·.d) = fuzL n E X (i * (E + 1) + k))) (fun kv _ => E + 1 - (intOf kv).toNat)
  case atStart => exact ⟨0, hs, Nat.zero_le _, rfl, HR, HM⟩
  case round =>
    clear HR HM hs
    obtain ⟨k, hs, hk, rfl, HR, HM⟩ := hrel
    by_cases hkE : k < E + 1
    · have q1 : decide ((k : Int) < (E : Int) + 1) = true := decide_eq_true (by omega)
      have q2 : decide (k < E + 1) = true := decide_eq_true hkE
      obtain ⟨j, hj⟩ : ∃ j, i * (E + 1) + k = j := ⟨_, rfl⟩
      have hjN : j < N := by rw [← hj, HN.out]; exact at_lt hi (by omega)
      have hjb : j ≤ 60 := by omega
      have HJ := Lib.hid hj
      rw [hj] at HM
      have hlen := HR.out.len
      obtain ⟨x, hx⟩ : ∃ x, hs[j]? = some x := ⟨hs[j]'(by omega), List.getElem?_eq_getElem _⟩
      have hxd : x.d = ⟨false, [], []⟩ := by
        have h1 := congrArg (fun l : List Lst => l[j]?) HM.out
        rw [List.getElem?_map, hx, fuzL_at (by rw [← HN.out]; exact hjN), if_neg (by omega)] at h1
        injection h1 with h1
      obtain ⟨fb, hfb⟩ : ∃ b, decide (i = n) = b := ⟨_, rfl⟩
      obtain ⟨hr1, k0, f0, hgw⟩ := HR.out.setfin (b := fb) hx
      rw [hxd] at k0
      have hx1 : (hs.set j (⟨⟨fb, x.d.arcs, x.d.free⟩, x.A, x.c, x.F, x.e⟩ : Lsh))[j]? = some ⟨⟨fb, x.d.arcs, x.d.free⟩, x.A, x.c, x.F, x.e⟩ := List.getElem?_set_self (by omega)
      have HBL := Lib.hid HR.out.bel
      have HST : Hid (fuzSt n E X j = ⟨fb, [], if k < E ∧ X ≤ i ∧ i < n then [((j + E + 2 : Nat) : Int)] else []⟩) := by
        show _ = _
        rw [← hj, fuzSt_at (by omega), ← hfb]
      have HA1 := Lib.hid (HAT.out wr i k j (i : Int) (k : Int) rfl rfl (by omega) (by omega) hj HBL.out)
      have hcase : (i = n ∧ fb = true) ∨ (i < n ∧ fb = false) := by
        by_cases e : i = n
        · exact .inl ⟨e, by rw [← hfb]; exact decide_eq_true e⟩
        · exact .inr ⟨by omega, by rw [← hfb]; exact decide_eq_false e⟩
      by_cases hnew : k < E ∧ X ≤ i ∧ i < n
      · obtain ⟨h1, h2, h3⟩ := hnew
        obtain rfl : fb = false := by rcases hcase with ⟨e, _⟩ | ⟨_, e⟩; omega; exact e
        have p1 : ((i : Int) == (n : Int)) = false := by rw [beq_eq_false_iff_ne]; omega
        have p2 : (i == n) = false := by rw [beq_eq_false_iff_ne]; omega
        have p3 : decide ((k : Int) < (E : Int)) = true := decide_eq_true (by omega)
        have p4 : decide (k < E) = true := decide_eq_true h1
        have p5 : decide ((i : Int) ≥ (X : Int)) = true := decide_eq_true (by omega)
        have p6 : decide (i ≥ X) = true := decide_eq_true h2
        have p7 : decide ((i : Int) < (n : Int)) = true := decide_eq_true (by omega)
        have p8 : decide (i < n) = true := decide_eq_true h3
        obtain ⟨hr2, k2, f2, hgw2⟩ := hr1.newfree (z := (j : Int) + (E : Int) + 2) hx1
        have hsz : (wr.setCell ⟨go, j * 3, none⟩ (.bool false)).heap.size = wr.heap.size := by simp [World.setCell]
        rw [hsz] at hr2
        have hk2 : (wr.setCell ⟨go, j * 3, none⟩ (.bool false)).cell? ⟨go, j * 3 + 2, none⟩ = some (.slice x.F 0 x.e) := by
          rw [hxd] at k2
          exact k2
        have hk3 := (lo_cell HR.out.out hx).2.2
        rw [hxd] at hk3
        have hk4 := free_at (own_blk HR.out.out).2.2.choose_spec (j * 3 + 2)
        have HR2 := Lib.hid hr2
        have HM2 : Hid (((hs.set j (⟨⟨false, x.d.arcs, x.d.free⟩, x.A, x.c, x.F, x.e⟩ : Lsh)).set j ⟨⟨false, x.d.arcs, [(j : Int) + (E : Int) + 2]⟩, x.A, x.c, some ⟨wr.heap.size, 0, none⟩, 1⟩).map (·.d) = fuzL n E X (i * (E + 1) + (k + 1))) := by
          show _ = _
          have ec : ((j + E + 2 : Nat) : Int) = (j : Int) + (E : Int) + 2 := by omega
          rw [List.set_set, List.map_set, HM.out, ← Nat.add_assoc, HJ.out, ← fuzL_step, HST.out, hxd, if_pos ⟨h1, h2, h3⟩, ec]
        have HA2 := Lib.hid (HAT.out (wr.setCell ⟨go, j * 3, none⟩ (.bool false)) i k j (i : Int) (k : Int) rfl rfl (by omega) (by omega) hj hr1.bel)
        have HA3 := Lib.hid (HAT.out (wr.setCell ⟨go, j * 3, none⟩ (.bool false)) (i + 1) (k + 1) (j + E + 2) ((i : Int) + 1) ((k : Int) + 1) (by omega) (by omega) (by omega) (by omega) (by rw [Nat.add_mul]; omega) hr1.bel)
        clear hr1 hr2 hx1 hj hfb hcase hx hxd HST HM HR HBL HAT h1 h2 h3 k2
        go_wp2_with fail
        refine HA1.out.mono ?_
        rintro e w5 ⟨rfl, rfl⟩
        go_wp2_with fail
        refine HA2.out.mono ?_
        rintro e w6 ⟨rfl, rfl⟩
        go_wp2_with fail
        refine HA3.out.mono ?_
        rintro e w7 ⟨rfl, rfl⟩
        go_wp2_with fail
        go_roundw
        case rel => exact ⟨k + 1, _, by omega, by go_num, HR2, HM2⟩
        case measure => first | (simp [intOf]; done) | (simp [intOf]; omega)
      · have HR2 := Lib.hid hr1
        have HM2 : Hid ((hs.set j (⟨⟨fb, x.d.arcs, x.d.free⟩, x.A, x.c, x.F, x.e⟩ : Lsh)).map (·.d) = fuzL n E X (i * (E + 1) + (k + 1))) := by
          show _ = _
          rw [List.map_set, HM.out, ← Nat.add_assoc, HJ.out, ← fuzL_step, HST.out, hxd, if_neg hnew]
        have hno : (k < E ∧ X ≤ i ∧ i = n) ∨ (k < E ∧ i < X) ∨ E ≤ k := by omega
        have p0 : ((i : Int) == (n : Int)) = fb := by
          rcases hcase with ⟨e, h⟩ | ⟨e, h⟩
          · rw [h, beq_iff_eq, e]
          · rw [h, beq_eq_false_iff_ne]; omega
        have p00 : (i == n) = fb := by
          rcases hcase with ⟨e, h⟩ | ⟨e, h⟩
          · rw [h, beq_iff_eq, e]
          · rw [h, beq_eq_false_iff_ne]; omega
        clear hr1 hx1 hj hfb hcase hx hxd HST HM HR HBL HAT hnew
        rcases hno with ⟨h1, h2, h3⟩ | ⟨h1, h2⟩ | h1
        · have p3 : decide ((k : Int) < (E : Int)) = true := decide_eq_true (by omega)
          have p4 : decide (k < E) = true := decide_eq_true h1
          have p5 : decide ((i : Int) ≥ (X : Int)) = true := decide_eq_true (by omega)
          have p6 : decide (i ≥ X) = true := decide_eq_true h2
          have p7 : decide ((i : Int) < (n : Int)) = false := decide_eq_false (by omega)
          have p8 : decide (i < n) = false := decide_eq_false (by omega)
          clear h1 h2 h3
          go_wp2_with fail
          refine HA1.out.mono ?_
          rintro e w5 ⟨rfl, rfl⟩
          go_wp2_with fail
          go_roundw
          case rel => exact ⟨k + 1, _, by omega, by go_num, HR2, HM2⟩
          case measure => first | (simp [intOf]; done) | (simp [intOf]; omega)
        · have p3 : decide ((k : Int) < (E : Int)) = true := decide_eq_true (by omega)
          have p4 : decide (k < E) = true := decide_eq_true h1
          have p5 : decide ((i : Int) ≥ (X : Int)) = false := decide_eq_false (by omega)
          have p6 : decide (i ≥ X) = false := decide_eq_false (by omega)
          clear h1 h2
          go_wp2_with fail
          refine HA1.out.mono ?_
          rintro e w5 ⟨rfl, rfl⟩
          go_wp2_with fail
          go_roundw
          case rel => exact ⟨k + 1, _, by omega, by go_num, HR2, HM2⟩
          case measure => first | (simp [intOf]; done) | (simp [intOf]; omega)
        · have p3 : decide ((k : Int) < (E : Int)) = false := decide_eq_false (by omega)
          have p4 : decide (k < E) = false := decide_eq_false (by omega)
          clear h1
          go_wp2_with fail
          refine HA1.out.mono ?_
          rintro e w5 ⟨rfl, rfl⟩
          go_wp2_with fail
          go_roundw
          case rel => exact ⟨k + 1, _, by omega, by go_num, HR2, HM2⟩
          case measure => first | (simp [intOf]; done) | (simp [intOf]; omega)
    · obtain rfl : k = E + 1 := by omega
      have q1 : decide (((E + 1 : Nat) : Int) < (E : Int) + 1) = false := decide_eq_false (by omega)
      have q2 : decide (E + 1 < E + 1) = false := decide_eq_false (by omega)
      have HM2 : Hid (hs.map (·.d) = fuzL n E X ((i + 1) * (E + 1))) := by
        show _ = _
        rw [HM.out, Nat.add_mul, Nat.one_mul]
      clear HM
      go_wp2_with fail
      exact hexit wr hs _ _ _ _ _ _ _ _ _ _ _ _ _ _ _ _ _ _ _ _ _ _ _ _ _ _ _ _ _ _ _ _ _ _ _ _ _ _ _ _ _ _ HR HM2
set_option maxRecDepth 100000 in
set_option maxHeartbeats 8000000 in
theorem fz_i1 (w0 W1 : World) (go N cpN : Nat) (hs : List Lsh) (HR : Hid (LoR w0 W1 (.slice (some ⟨go, 0, none⟩) N cpN) N hs)) (n E X wb : Nat) (hE : E ≤ 2) (hn : n ≤ 16) (hX : X ≤ 16) (HN : Hid (N = (n + 1) * (E + 1))) (HW : Hid (w0.cell? ⟨wb, 0, none⟩ = some (.int .i64 ((E : Int) + 1)))) (HWB : Hid (wb < w0.heap.size)) (HM : Hid (hs.map (·.d) = fuzL n E X 0)) (A : Option Addr) (cp : Nat)
    (c0 c3 c4 c5 c6 c7 c9 c15 c16 c17 c18 c19 c20 c21 c22 c23 c24 c25 c26 c27 c28 c29 c30 c31 c32 c33 c34 c35 c36 c37 c38 c39 c40 c41 c42 c43 c44 c45 c46 c47 c48 c49 c50 c51 c99 c100 c101 c102 c103 c104 c105 c106 c107 c108 c109 c110 c111 c112 c113 c114 c115 c116 c117 c118 c119 c120 c121 c122 c123 c124 c125 c126 c127 c128 c129 c130 c131 c132 c133 c134 c135 c136 c137 c138 c139 c140 c141 c142 c143 c144 c145 c146 c147 c148 c149 c150 c151 c152 c153 c154 c155 c156 c157 c158 c159 c160 c161 c162 c163 c164 c165 c166 c167 c168 c169 c170 c171 c172 u13 u14 u54 u55 u56 u57 u58 u59 u60 u61 u62 u63 u64 u65 u66 u67 u68 u69 u70 u71 u72 u73 u74 u75 u76 u77 u78 u79 u80 u81 u82 u83 u84 u85 u86 u87 u88 u89 u90 u91 u92 u93 u94 u95 u96 u97 u98 : Value) (Q0 : Exit → Act → World → Prop) (hQ0 : ∀ c (a a' : Act) w, a.defers = a'.defers → Q0 (.panic c) a w → Q0 (.panic c) a' w)
    (hexit : ∀ (W : World) (hs' : List Lsh) (x53 u13 u14 u54 u55 u56 u57 u58 u59 u60 u61 u62 u63 u64 u65 u66 u67 u68 u69 u70 u71 u72 u73 u74 u75 u76 u77 u78 u79 u80 u81 u82 u83 u84 u85 u86 u87 u88 u89 u90 u91 u92 u93 u94 u95 u96 u97 u98 : Value), Hid (LoR w0 W (.slice (some ⟨go, 0, none⟩) N cpN) N hs') → Hid (hs'.map (·.d) = fuzL n E X N) → Q0 (.exit 0) ⟨List.toArray (c0 :: .int .i64 (E : Int) :: .int .i64 (X : Int) :: c3 :: c4 :: c5 :: c6 :: c7 :: .slice A n cp :: c9 :: .pointer (some ⟨wb, 0, none⟩) :: .slice (some ⟨go, 0, none⟩) N cpN :: .func (.func 48) #[] #[.pointer (some ⟨wb, 0, none⟩)] :: u13 :: u14 :: c15 :: c16 :: c17 :: c18 :: c19 :: c20 :: c21 :: c22 :: c23 :: c24 :: c25 :: c26 :: c27 :: c28 :: c29 :: c30 :: c31 :: c32 :: c33 :: c34 :: c35 :: c36 :: c37 :: c38 :: c39 :: c40 :: c41 :: c42 :: c43 :: c44 :: c45 :: c46 :: c47 :: c48 :: c49 :: c50 :: c51 :: .int .i64 ((n : Int) + 1) :: x53 :: u54 :: u55 :: u56 :: u57 :: u58 :: u59 :: u60 :: u61 :: u62 :: u63 :: u64 :: u65 :: u66 :: u67 :: u68 :: u69 :: u70 :: u71 :: u72 :: u73 :: u74 :: u75 :: u76 :: u77 :: u78 :: u79 :: u80 :: u81 :: u82 :: u83 :: u84 :: u85 :: u86 :: u87 :: u88 :: u89 :: u90 :: u91 :: u92 :: u93 :: u94 :: u95 :: u96 :: u97 :: u98 :: c99 :: c100 :: c101 :: c102 :: c103 :: c104 :: c105 :: c106 :: c107 :: c108 :: c109 :: c110 :: c111 :: c112 :: c113 :: c114 :: c115 :: c116 :: c117 :: c118 :: c119 :: c120 :: c121 :: c122 :: c123 :: c124 :: c125 :: c126 :: c127 :: c128 :: c129 :: c130 :: c131 :: c132 :: c133 :: c134 :: c135 :: c136 :: c137 :: c138 :: c139 :: c140 :: c141 :: c142 :: c143 :: c144 :: c145 :: c146 :: c147 :: c148 :: c149 :: c150 :: c151 :: c152 :: c153 :: c154 :: c155 :: c156 :: c157 :: c158 :: c159 :: c160 :: c161 :: c162 :: c163 :: c164 :: c165 :: c166 :: c167 :: c168 :: c169 :: c170 :: c171 :: c172 :: []), []⟩ W) :
    Code.wp Tryd.prog (.loop (loopOf Tryd.f24 0)) Q0 ⟨List.toArray (c0 :: .int .i64 (E : Int) :: .int .i64 (X : Int) :: c3 :: c4 :: c5 :: c6 :: c7 :: .slice A n cp :: c9 :: .pointer (some ⟨wb, 0, none⟩) :: .slice (some ⟨go, 0, none⟩) N cpN :: .func (.func 48) #[] #[.pointer (some ⟨wb, 0, none⟩)] :: u13 :: u14 :: c15 :: c16 :: c17 :: c18 :: c19 :: c20 :: c21 :: c22 :: c23 :: c24 :: c25 :: c26 :: c27 :: c28 :: c29 :: c30 :: c31 :: c32 :: c33 :: c34 :: c35 :: c36 :: c37 :: c38 :: c39 :: c40 :: c41 :: c42 :: c43 :: c44 :: c45 :: c46 :: c47 :: c48 :: c49 :: c50 :: c51 :: .int .i64 ((n : Int) + 1) :: .int .i64 (0 : Int) :: u54 :: u55 :: u56 :: u57 :: u58 :: u59 :: u60 :: u61 :: u62 :: u63 :: u64 :: u65 :: u66 :: u67 :: u68 :: u69 :: u70 :: u71 :: u72 :: u73 :: u74 :: u75 :: u76 :: u77 :: u78 :: u79 :: u80 :: u81 :: u82 :: u83 :: u84 :: u85 :: u86 :: u87 :: u88 :: u89 :: u90 :: u91 :: u92 :: u93 :: u94 :: u95 :: u96 :: u97 :: u98 :: c99 :: c100 :: c101 :: c102 :: c103 :: c104 :: c105 :: c106 :: c107 :: c108 :: c109 :: c110 :: c111 :: c112 :: c113 :: c114 :: c115 :: c116 :: c117 :: c118 :: c119 :: c120 :: c121 :: c122 :: c123 :: c124 :: c125 :: c126 :: c127 :: c128 :: c129 :: c130 :: c131 :: c132 :: c133 :: c134 :: c135 :: c136 :: c137 :: c138 :: c139 :: c140 :: c141 :: c142 :: c143 :: c144 :: c145 :: c146 :: c147 :: c148 :: c149 :: c150 :: c151 :: c152 :: c153 :: c154 :: c155 :: c156 :: c157 :: c158 :: c159 :: c160 :: c161 :: c162 :: c163 :: c164 :: c165 :: c166 :: c167 :: c168 :: c169 :: c170 :: c171 :: c172 :: []), []⟩ W1 := by
  have HWK : Hid (∀ W, Below w0.heap.size w0 W → W.cell? ⟨wb, 0, none⟩ = some (.int .i64 ((E : Int) + 1)) ∧ wb < W.heap.size) := fun W hb => ⟨(hb.cell (p := ⟨wb, 0, none⟩) HWB.out).trans HW.out, Nat.lt_of_lt_of_le HWB.out hb.size⟩
  conv => arg 2; arg 1; whnf
  go_loopw [53] (fun iv wr => ∃ (i : Nat) (hs : List Lsh), i ≤ n + 1 ∧ iv = .int .i64 (i : Int) ∧ Hid (LoR w0 wr (.slice (some ⟨go, 0, none⟩) N cpN) N hs) ∧ Hid (hs.map (·.d) = fuzL n E X (i * (E + 1)))) (fun iv _ => n + 1 - (intOf iv).toNat)
  case atStart => exact ⟨0, hs, Nat.zero_le _, rfl, HR, by rw [Nat.zero_mul]; exact HM⟩
  case round =>
    clear HR HM hs
    obtain ⟨i, hs, hi, rfl, HR, HM⟩ := hrel
    by_cases hin : i < n + 1
    · have q1 : decide ((i : Int) < (n : Int) + 1) = true := decide_eq_true (by omega)
      have q2 : decide (i < n + 1) = true := decide_eq_true hin
      obtain ⟨k0, hwb⟩ := HWK.out wr HR.out.bel
      go_wp2_with fail
      refine fz_k1 w0 wr go N cpN hs HR n E X i wb hE hn (by omega) hX HN HW HWB HM A cp _ _ _ _ _ _ _ _ _ _ _ _ _ _ _ _ _ _ _ _ _ _ _ _ _ _ _ _ _ _ _ _ _ _ _ _ _ _ _ _ _ _ _ _ _ _ _ _ _ _ _ _ _ _ _ _ _ _ _ _ _ _ _ _ _ _ _ _ _ _ _ _ _ _ _ _ _ _ _ _ _ _ _ _ _ _ _ _ _ _ _ _ _ _ _ _ _ _ _ _ _ _ _ _ _ _ _ _ _ _ _ _ _ _ _ _ _ _ _ _ _ _ _ _ _ _ _ _ _ _ _ _ _ _ _ _ _ _ _ _ _ _ _ _ _ _ _ _ _ _ _ _ _ _ _ _ _ _ _ _ _ _ _ _ _ _ (fun c a a' w hd h => hQ0 c a a' w hd h) ?_
      intro W hs' x57 u14 u58 u59 u60 u61 u62 u63 u64 u65 u66 u67 u68 u69 u70 u71 u72 u73 u74 u75 u76 u77 u78 u79 u80 u81 u82 u83 u84 u85 u86 u87 u88 u89 u90 u91 u92 u93 u94 u95 u96 u97 HR2 HM2
      clear HR HM k0 hwb
      go_wp2_with fail
      go_roundw
      case rel => exact ⟨i + 1, hs', by omega, by go_num, HR2, HM2⟩
      case measure => first | (simp [intOf]; done) | (simp [intOf]; omega)
    · obtain rfl : i = n + 1 := by omega
      have q1 : decide (((n + 1 : Nat) : Int) < (n : Int) + 1) = false := decide_eq_false (by omega)
      have q2 : decide (n + 1 < n + 1) = false := decide_eq_false (by omega)
      rw [← HN.out] at HM
      go_wp2_with fail
      exact hexit wr hs _ _ _ _ _ _ _ _ _ _ _ _ _ _ _ _ _ _ _ _ _ _ _ _ _ _ _ _ _ _ _ _ _ _ _ _ _ _ _ _ _ _ _ _ _ _ _ _ HR HM
end Go.Proofs.YtclahhkcbkpofaaDoor
