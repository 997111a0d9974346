/- The innermost loop of dfa.Both. -/
import Derived.Test.YtebdffabfimmkaaDoorHDfaTight40
import Derived.Test.YtebdffabfimmkaaDoorHDfaTight41
namespace Go.Proofs.YtebdffabfimmkaaDoor
open Go.RowKit Go.Maps

set_option linter.unusedVariables false in
set_option maxRecDepth 100000 in
set_option maxHeartbeats 8000000 in
theorem both_j (w W1 : World) (B : Nat) (hB : B ≤ w.heap.size) (ab ao n c : Nat) (H : List Sh) (HS : Hid (StsIn w B (some ⟨ab, ao, none⟩) n c H)) (eb eo n' c' : Nat) (H' : List Sh) (HS' : Hid (StsIn w B (some ⟨eb, eo, none⟩) n' c' H')) (hab : ab < B) (heb : eb < B)
    (a e' : List St) (HA : Hid (H.map (·.d) = a)) (HE : Hid (H'.map (·.d) = e')) (HG : Hid (Good a)) (HG' : Hid (Good e')) (hln : H.length = n) (hln' : H'.length = n') (HAL : Hid (a.length = n)) (HEL : Hid (e'.length = n')) (HT : Hid (Tab w)) (hnp : 0 < n) (hnp' : 0 < n') (hnm : n ≤ 20000) (hnm' : n' ≤ 20000)
    (p kb i u v : Nat) (X Y : Sh) (HXA : Hid (arcsS a (u : Int) = X.d.2)) (HYA : Hid (arcsS e' (v : Int) = Y.d.2)) (HXM : Hid (X ∈ H)) (HYM : Hid (Y ∈ H')) (HAX : Hid (Asc X.d.2 256)) (HAY : Hid (Asc Y.d.2 256)) (m' : Nat) (HM' : Hid (Y.d.2.length = m')) (hmm' : m' ≤ 140737488355328)
    (k : Nat) (lo hi tt : Int) (HPX : Hid (X.d.2[k]? = some (lo, hi, tt))) (pb : Nat) (hpbs : w.heap.size ≤ pb)
    (ns cs ct na ca b : Nat) (As At Aa : Option Addr) (N : DataW Unit) (hs : List Sh) (S : List Rw) (arcs : List Arc3) (M0 : List (List Int))
    (HB0 : Hid (BoG a e' n n' w W1 p kb i u v X.d.2 Y.d.2 k 0 b ns cs ct As At N arcs na ca Aa hs S M0)) (HPB0 : Hid (W1.heap[pb]? = some (.cells #[.int .i64 lo, .int .i64 hi, .int .i64 tt] 41 (0, 0)) ∧ (Value.slice Aa na ca).ownBlock ≠ some pb))
    (c2 c3 c4 c5 c6 c7 c9 c10 c11 c13 c15 c19 c20 c21 c22 c23 c24 c25 c26 c27 c28 c29 c30 c31 c32 c33 c34 c35 c36 c37 c38 c39 c40 c41 c42 c43 c44 c45 c46 c47 c48 c49 c50 c51 c52 c53 c54 c55 c56 c57 c58 c59 c60 c61 c62 c63 c64 c65 c66 c67 c68 c69 c70 c71 c72 c73 c74 c75 c76 c77 c78 c79 c80 c81 c82 c83 c84 c85 c86 c87 c88 c89 c90 c137 c138 c139 c140 c141 c142 c143 c144 c145 c146 c147 c148 c149 c150 u16 u17 u18 u94 u95 u96 u97 u98 u99 u100 u101 u102 u103 u104 u105 u106 u107 u108 u109 u110 u111 u112 u113 u114 u115 u116 u117 u118 u119 u120 u121 u122 u123 u124 u125 u126 u127 u128 u129 u130 u131 u132 u133 u134 u135 u136 : Value) (Q0 : Exit → Act → World → Prop) (hQ0 : ∀ c (a a' : Act) w, a.defers = a'.defers → Q0 (.panic c) a w → Q0 (.panic c) a' w)
    (hexit : ∀ (ns cs ct na ca b : Nat) (As At Aa : Option Addr) (N : DataW Unit) (hs : List Sh) (S : List Rw) (arcs : List Arc3) (W : World) (u16 u17 u18 u94 u95 u96 u97 u98 u99 u100 u101 u102 u103 u104 u105 u106 u107 u108 u109 u110 u111 u112 u113 u114 u115 u116 u117 u118 u119 u120 u121 u122 u123 u124 u125 u126 u127 u128 u129 u130 u131 u132 u133 u134 u135 u136 : Value), Hid (BoG a e' n n' w W p kb i u v X.d.2 Y.d.2 k m' b ns cs ct As At N arcs na ca Aa hs S M0) → Q0 (.exit 4) ⟨List.toArray (.slice (some ⟨ab, ao, none⟩) n c :: .slice (some ⟨eb, eo, none⟩) n' c' :: c2 :: c3 :: c4 :: c5 :: c6 :: c7 :: .pointer (some ⟨p, 0, none⟩) :: c9 :: c10 :: c11 :: .slice Aa na ca :: c13 :: .pointer (some ⟨pb, 0, none⟩) :: c15 :: u16 :: u17 :: u18 :: c19 :: c20 :: c21 :: c22 :: c23 :: c24 :: c25 :: c26 :: c27 :: c28 :: c29 :: c30 :: c31 :: c32 :: c33 :: c34 :: c35 :: c36 :: c37 :: c38 :: c39 :: c40 :: c41 :: c42 :: c43 :: c44 :: c45 :: c46 :: c47 :: c48 :: c49 :: c50 :: c51 :: c52 :: c53 :: c54 :: c55 :: c56 :: c57 :: c58 :: c59 :: c60 :: c61 :: c62 :: c63 :: c64 :: c65 :: c66 :: c67 :: c68 :: c69 :: c70 :: c71 :: c72 :: c73 :: c74 :: c75 :: c76 :: c77 :: c78 :: c79 :: c80 :: c81 :: c82 :: c83 :: c84 :: c85 :: c86 :: c87 :: c88 :: c89 :: c90 :: .slice Y.A m' Y.c :: .int .i64 m' :: .int .i64 m' :: u94 :: u95 :: u96 :: u97 :: u98 :: u99 :: u100 :: u101 :: u102 :: u103 :: u104 :: u105 :: u106 :: u107 :: u108 :: u109 :: u110 :: u111 :: u112 :: u113 :: u114 :: u115 :: u116 :: u117 :: u118 :: u119 :: u120 :: u121 :: u122 :: u123 :: u124 :: u125 :: u126 :: u127 :: u128 :: u129 :: u130 :: u131 :: u132 :: u133 :: u134 :: u135 :: u136 :: c137 :: c138 :: c139 :: c140 :: c141 :: c142 :: c143 :: c144 :: c145 :: c146 :: c147 :: c148 :: c149 :: c150 :: []), []⟩ W) :
    Code.wp Tryd.prog (.loop (loopOf Tryd.f21 2)) Q0 ⟨List.toArray (.slice (some ⟨ab, ao, none⟩) n c :: .slice (some ⟨eb, eo, none⟩) n' c' :: c2 :: c3 :: c4 :: c5 :: c6 :: c7 :: .pointer (some ⟨p, 0, none⟩) :: c9 :: c10 :: c11 :: .slice Aa na ca :: c13 :: .pointer (some ⟨pb, 0, none⟩) :: c15 :: u16 :: u17 :: u18 :: c19 :: c20 :: c21 :: c22 :: c23 :: c24 :: c25 :: c26 :: c27 :: c28 :: c29 :: c30 :: c31 :: c32 :: c33 :: c34 :: c35 :: c36 :: c37 :: c38 :: c39 :: c40 :: c41 :: c42 :: c43 :: c44 :: c45 :: c46 :: c47 :: c48 :: c49 :: c50 :: c51 :: c52 :: c53 :: c54 :: c55 :: c56 :: c57 :: c58 :: c59 :: c60 :: c61 :: c62 :: c63 :: c64 :: c65 :: c66 :: c67 :: c68 :: c69 :: c70 :: c71 :: c72 :: c73 :: c74 :: c75 :: c76 :: c77 :: c78 :: c79 :: c80 :: c81 :: c82 :: c83 :: c84 :: c85 :: c86 :: c87 :: c88 :: c89 :: c90 :: .slice Y.A m' Y.c :: .int .i64 m' :: .int .i64 (0 : Int) :: u94 :: u95 :: u96 :: u97 :: u98 :: u99 :: u100 :: u101 :: u102 :: u103 :: u104 :: u105 :: u106 :: u107 :: u108 :: u109 :: u110 :: u111 :: u112 :: u113 :: u114 :: u115 :: u116 :: u117 :: u118 :: u119 :: u120 :: u121 :: u122 :: u123 :: u124 :: u125 :: u126 :: u127 :: u128 :: u129 :: u130 :: u131 :: u132 :: u133 :: u134 :: u135 :: u136 :: c137 :: c138 :: c139 :: c140 :: c141 :: c142 :: c143 :: c144 :: c145 :: c146 :: c147 :: c148 :: c149 :: c150 :: []), []⟩ W1 := by
  conv => arg 2; arg 1; whnf
  go_loopw [12, 93] (fun av jv wj => ∃ (j ns cs ct na ca b : Nat) (As At Aa : Option Addr) (N : DataW Unit) (hs : List Sh) (S : List Rw) (arcs : List Arc3), jv = .int .i64 j ∧ av = .slice Aa na ca ∧ j ≤ m' ∧ Hid (BoG a e' n n' w wj p kb i u v X.d.2 Y.d.2 k j b ns cs ct As At N arcs na ca Aa hs S M0) ∧ Hid (wj.heap[pb]? = some (.cells #[.int .i64 lo, .int .i64 hi, .int .i64 tt] 41 (0, 0)) ∧ (Value.slice Aa na ca).ownBlock ≠ some pb)) (fun _ jv _ => m' - (intOf jv).toNat)
  case atStart => exact ⟨0, ns, cs, ct, na, ca, b, As, At, Aa, N, hs, S, arcs, rfl, rfl, Nat.zero_le _, HB0, HPB0⟩
  case round =>
    clear HB0 HPB0
    obtain ⟨j, ns, cs, ct, na, ca, b, As, At, Aa, N, hs, S, arcs, rfl, rfl, hjm, HB1, HPB⟩ := hrel
    by_cases hj : j < m'
    · -- J{
      obtain ⟨qb0, qo0, hYA, hqb0, hqc⟩ := (HS'.out.keep (HB1.out.ti.bel.mono hB) (Nat.le_refl _)).arc HYM.out (by rw [HM'.out]; omega)
      obtain ⟨⟨lo', hi', tt'⟩, hy⟩ : ∃ x, Y.d.2[j]? = some x := ⟨Y.d.2[j]'(by rw [HM'.out]; exact hj), List.getElem?_eq_getElem _⟩
      obtain ⟨p0, p1, p2⟩ := hqc j _ hy
      simp only at p0 p1 p2
      have hbs := HB1.out.ti.bel.size
      have hqw0 : qb0 < wr.heap.size := by omega
      have HQY := Lib.hid hy
      have hpbw : pb < wr.heap.size := (Array.getElem?_eq_some_iff.1 HPB.out.1).1
      have hmc : m' ≤ Y.c := by rw [← HM'.out]; exact (HS'.out.ar Y HYM.out).2.1
      rw [hYA]
      clear hqc hy
      have hqb1 : (wr.alloc (.cells #[.int .i64 lo', .int .i64 hi', .int .i64 tt'] 41)).heap[wr.heap.size]? = some (.cells #[.int .i64 lo', .int .i64 hi', .int .i64 tt'] 41 (0, 0)) := heap_alloc_new wr _
      have hqb2 : (Value.slice Aa na ca).ownBlock ≠ some wr.heap.size := fun h => by
        have h1 := ((HB1.out.ti.mr.g.arcs.own _ (List.mem_cons_self ..)).lt _ h).2
        omega
      have hBA := bnew (brefl wr) (.cells #[.int .i64 lo', .int .i64 hi', .int .i64 tt'] 41)
      have HB2 := Lib.hid (HB1.out.keep hBA)
      have HPB2 := Lib.hid (And.intro ((hBA.block pb hpbw).trans HPB.out.1) HPB.out.2)
      have hsz9 : (wr.alloc (.cells #[.int .i64 lo', .int .i64 hi', .int .i64 tt'] 41)).heap.size = wr.heap.size + 1 := by simp
      go_wp2_with fail
      obtain ⟨qb, hqbe⟩ : ∃ x, wr.heap.size = x := ⟨_, rfl⟩
      rw [hqbe] at hqb1 hqb2 hsz9 ⊢
      have hqpb : pb < qb := by omega
      have hqbs : w.heap.size ≤ qb := by omega
      clear HB1 HPB p0 p1 p2 hqw0 hqbe hBA hpbw hqb0
      generalize wr.alloc (.cells #[.int .i64 lo', .int .i64 hi', .int .i64 tt'] 41) = W2 at *
      have c0 := cell_of_row W2 pb 0 _ _ (0, 0) HPB2.out.1
      have c1 := cell_of_row W2 pb 1 _ _ (0, 0) HPB2.out.1
      have c2 := cell_of_row W2 pb 2 _ _ (0, 0) HPB2.out.1
      have d0 := cell_of_row W2 qb 0 _ _ (0, 0) hqb1
      have d1 := cell_of_row W2 qb 1 _ _ (0, 0) hqb1
      have d2 := cell_of_row W2 qb 2 _ _ (0, 0) hqb1
      have hpW : pb < W2.heap.size := by omega
      have hqW : qb < W2.heap.size := by omega
      have HQB := Lib.hid (And.intro hqb1 hqb2)
      clear hqb1 hqb2
      go_region_held3 (fun w' => w'.cell? ⟨pb, 0, none⟩ = some (.int .i64 lo) ∧ w'.cell? ⟨pb, 1, none⟩ = some (.int .i64 hi) ∧ w'.cell? ⟨qb, 0, none⟩ = some (.int .i64 lo') ∧ w'.cell? ⟨qb, 1, none⟩ = some (.int .i64 hi'))
        (first
          | assumption
          | exact ⟨c0, c1, d0, d1⟩)
        (first
          | (go_at_call 99999))
      all_goals
        have hBD : Below W2.heap.size W2 W2.drew := Below.drew (brefl W2)
        have HB3 := Lib.hid (HB2.out.keep hBD)
        have HPB3 := Lib.hid (And.intro ((hBD.block pb hpW).trans HPB2.out.1) HPB2.out.2)
        have HQB3 := Lib.hid (And.intro ((hBD.block qb hqW).trans HQB.out.1) HQB.out.2)
        have hpW3 : pb < W2.drew.heap.size := Nat.lt_of_lt_of_le hpW hBD.size
        have hqW3 : qb < W2.drew.heap.size := Nat.lt_of_lt_of_le hqW hBD.size
        clear hBD HB2 HPB2 HQB c0 c1 c2 d0 d1 d2 hpW hqW hsz9 hbs hYA
        generalize W2.drew = W3 at *
        obtain ⟨mx, hmx⟩ : ∃ z, max lo lo' = z := ⟨_, rfl⟩
        obtain ⟨mn, hmn⟩ : ∃ z, min hi hi' = z := ⟨_, rfl⟩
        rw [hmx, hmn]
        have HUV := Lib.hid (And.intro hmx hmn)
        clear hmx hmn
        by_cases hle : mx ≤ mn
        · -- R{
          have q2 : decide (mx ≤ mn) = true := decide_eq_true hle
          have hox := HAX.out.ok _ (List.mem_of_getElem? HPX.out)
          have hoy := HAY.out.ok _ (List.mem_of_getElem? HQY.out)
          simp only at hox hoy
          have hmxn := HUV.out
          obtain ⟨u2, rfl⟩ := Int.eq_ofNat_of_zero_le (show 0 ≤ mx by omega)
          obtain ⟨v2, rfl⟩ := Int.eq_ofNat_of_zero_le (show 0 ≤ mn by omega)
          have huv : u2 ≤ v2 := by omega
          have q3 : decide (u2 ≤ v2) = true := decide_eq_true huv
          clear hox hoy hmxn hle
          go_wp2_with fail
          refine both_r (w := w) (W3 := W3) (B := B) hB ab ao n c H HS eb eo n' c' H' HS' hab heb a e' HA HE HG HG' hln hln' HAL HEL HT hnp hnp' hnm hnm' p kb i u v X Y HXA HYA HXM HYM HAX HAY m' HM' hmm' k lo hi tt HPX pb hpbs ns cs ct na ca b As At Aa N hs S arcs M0 j hj lo' hi' tt' HQY qb hqbs HB3 HPB3 HQB3 hpW3 hqW3 u2 v2 HUV huv _ _ _ _ _ _ _ _ _ _ _ _ _ _ _ _ _ _ _ _ _ _ _ _ _ _ _ _ _ _ _ _ _ _ _ _ _ _ _ _ _ _ _ _ _ _ _ _ _ _ _ _ _ _ _ _ _ _ _ _ _ _ _ _ _ _ _ _ _ _ _ _ _ _ _ _ _ _ _ _ _ _ _ _ _ _ _ _ _ _ _ _ _ _ _ _ _ _ _ _ _ _ _ _ _ _ _ _ _ _ _ _ _ _ _ _ _ _ _ _ _ _ _ _ _ _ _ _ _ _ _ _ _ _ _ _ _ _ _ _ _ _ _ _ (fun c a a' w hd h => hQ0 c a a' w hd h) ?_
          intro ns' cs' ct' na' ca' As' At' Aa' N' hs' S' arcs' W u110 u111 u112 u113 u114 u115 u116 u117 u118 u119 u120 u121 u122 u123 u124 u125 u126 u127 u128 u129 u130 u131 u132 u133 u134 u135 HB4 HPB4
          clear HB3 HPB3 HQB3
          go_wp2_with fail
          go_roundw
          case rel => exact ⟨j + 1, ns', cs', ct', na', ca', v2 + 1, As', At', Aa', N', hs', S', arcs', by go_num, rfl, by omega, HB4, HPB4⟩
          case measure => simp [intOf]; omega
          -- R}
        · -- N{
          have q2 : decide (mx ≤ mn) = false := decide_eq_false hle
          have HB4 := Lib.hid (HB3.out.pass HPX.out HQY.out (by have h1 := HUV.out; simp only; rw [h1.1, h1.2]; exact hle))
          clear HB3 hle
          go_wp2_with fail
          go_roundw
          case rel => exact ⟨j + 1, ns, cs, ct, na, ca, b, As, At, Aa, N, hs, S, arcs, by go_num, rfl, by omega, HB4, HPB3⟩
          case measure => simp [intOf]; omega
          -- N}
      -- J}
    · obtain rfl : j = m' := by omega
      clear HPB
      go_wp2_with fail
      apply hexit
      exact HB1
end Go.Proofs.YtebdffabfimmkaaDoor
