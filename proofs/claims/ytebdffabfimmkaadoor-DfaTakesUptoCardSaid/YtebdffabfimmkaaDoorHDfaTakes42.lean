/- The loop of DfaMeets over the texts. -/
import Derived.Test.YtebdffabfimmkaaDoorHDfaTakes41
import Derived.Test.YtebdffabfimmkaaDoorHDfaTakes17
import Derived.Test.YtebdffabfimmkaaDoorHDfaTakes21
import Derived.Test.YtebdffabfimmkaaDoorHDfaTakes37
import Derived.Test.YtebdffabfimmkaaDoorHDfaTakes7
namespace Go.Proofs.YtebdffabfimmkaaDoor
open Go.RowKit Go.Maps

set_option linter.unusedVariables false in
set_option maxRecDepth 100000 in
set_option maxHeartbeats 8000000 in
theorem meets_loop (w W0 : World) (h0 : Below w.heap.size w W0) (A A' Ax Al : Option Addr) (n c n' c' nx cx nl cl : Nat) (H H' X L : List Sh) (HA : Hid (StsIn W0 W0.heap.size A n c H)) (HA' : Hid (StsIn W0 W0.heap.size A' n' c' H')) (HX : Hid (StsIn W0 W0.heap.size Ax nx cx X)) (HL : Hid (StsIn W0 W0.heap.size Al nl cl L))
    (At : Option Addr) (m ct : Nat) (y : Nat → ByteArray) (HT : Hid (TextsIn w At m ct y)) (HPX : Hid (∀ t, takesB (X.map (·.d)) t = (takesB (H.map (·.d)) t && takesB (H'.map (·.d)) t))) (HPL : Hid (∀ t, takesB (L.map (·.d)) t = takesB (H.map (·.d)) t))
    (c3 c4 c5 c8 c10 c11 c12 c13 c14 c18 c19 c20 c21 c22 c23 c24 c25 c26 c27 c28 c29 c30 c31 c32 c33 c34 c35 c36 c37 c38 c39 c40 c41 c42 c43 c44 c45 c46 c47 c48 c49 c50 c51 c52 c53 c54 c55 c56 c57 c58 c59 c60 c61 c62 c63 c64 c65 c66 c67 c68 c69 c70 c71 c72 c73 c74 c75 c76 c77 c78 c79 c80 c81 c82 c83 c84 c85 c86 c87 c88 c89 c90 c91 c92 c93 c94 c95 c96 c97 c98 c99 c100 c101 c102 c103 c104 c105 c106 c107 u6 u16 u17 u108 u109 u110 u111 u112 u113 u114 u115 u116 u117 u118 u119 u120 u121 u122 u123 u124 u125 u126 u127 u128 u129 u130 u131 u132 u133 u134 u135 u136 u137 u138 u139 u140 u141 u142 u143 u144 u145 u146 u147 u148 u149 u150 : Value) (Q0 : Exit → Act → World → Prop) (hQ0 : ∀ c (a a' : Act) w, a.defers = a'.defers → Q0 (.panic c) a w → Q0 (.panic c) a' w)
    (hexit : ∀ (i : Nat) (W : World) (u6 u16 u17 u108 u109 u110 u111 u112 u113 u114 u115 u116 u117 u118 u119 u120 u121 u122 u123 u124 u125 u126 u127 u128 u129 u130 u131 u132 u133 u134 u135 u136 u137 u138 u139 u140 u141 u142 u143 u144 u145 u146 u147 u148 u149 u150 : Value), Hid (Below W0.heap.size W0 W) → Q0 (.exit 0) ⟨List.toArray (.slice A n c :: .slice A' n' c' :: .slice At m ct :: c3 :: c4 :: c5 :: u6 :: .slice Ax nx cx :: c8 :: .slice Al nl cl :: c10 :: c11 :: c12 :: c13 :: c14 :: .int .i64 (i : Int) :: u16 :: u17 :: c18 :: c19 :: c20 :: c21 :: c22 :: c23 :: c24 :: c25 :: c26 :: c27 :: c28 :: c29 :: c30 :: c31 :: c32 :: c33 :: c34 :: c35 :: c36 :: c37 :: c38 :: c39 :: c40 :: c41 :: c42 :: c43 :: c44 :: c45 :: c46 :: c47 :: c48 :: c49 :: c50 :: c51 :: c52 :: c53 :: c54 :: c55 :: c56 :: c57 :: c58 :: c59 :: c60 :: c61 :: c62 :: c63 :: c64 :: c65 :: c66 :: c67 :: c68 :: c69 :: c70 :: c71 :: c72 :: c73 :: c74 :: c75 :: c76 :: c77 :: c78 :: c79 :: c80 :: c81 :: c82 :: c83 :: c84 :: c85 :: c86 :: c87 :: c88 :: c89 :: c90 :: c91 :: c92 :: c93 :: c94 :: c95 :: c96 :: c97 :: c98 :: c99 :: c100 :: c101 :: c102 :: c103 :: c104 :: c105 :: c106 :: c107 :: u108 :: u109 :: u110 :: u111 :: u112 :: u113 :: u114 :: u115 :: u116 :: u117 :: u118 :: u119 :: u120 :: u121 :: u122 :: u123 :: u124 :: u125 :: u126 :: u127 :: u128 :: u129 :: u130 :: u131 :: u132 :: u133 :: u134 :: u135 :: u136 :: u137 :: u138 :: u139 :: u140 :: u141 :: u142 :: u143 :: u144 :: u145 :: u146 :: u147 :: u148 :: u149 :: u150 :: []), []⟩ W) :
    Code.wp Tryd.prog (.loop (loopOf Tryd.f7 0)) Q0 ⟨List.toArray (.slice A n c :: .slice A' n' c' :: .slice At m ct :: c3 :: c4 :: c5 :: u6 :: .slice Ax nx cx :: c8 :: .slice Al nl cl :: c10 :: c11 :: c12 :: c13 :: c14 :: .int .i64 (0 : Int) :: u16 :: u17 :: c18 :: c19 :: c20 :: c21 :: c22 :: c23 :: c24 :: c25 :: c26 :: c27 :: c28 :: c29 :: c30 :: c31 :: c32 :: c33 :: c34 :: c35 :: c36 :: c37 :: c38 :: c39 :: c40 :: c41 :: c42 :: c43 :: c44 :: c45 :: c46 :: c47 :: c48 :: c49 :: c50 :: c51 :: c52 :: c53 :: c54 :: c55 :: c56 :: c57 :: c58 :: c59 :: c60 :: c61 :: c62 :: c63 :: c64 :: c65 :: c66 :: c67 :: c68 :: c69 :: c70 :: c71 :: c72 :: c73 :: c74 :: c75 :: c76 :: c77 :: c78 :: c79 :: c80 :: c81 :: c82 :: c83 :: c84 :: c85 :: c86 :: c87 :: c88 :: c89 :: c90 :: c91 :: c92 :: c93 :: c94 :: c95 :: c96 :: c97 :: c98 :: c99 :: c100 :: c101 :: c102 :: c103 :: c104 :: c105 :: c106 :: c107 :: u108 :: u109 :: u110 :: u111 :: u112 :: u113 :: u114 :: u115 :: u116 :: u117 :: u118 :: u119 :: u120 :: u121 :: u122 :: u123 :: u124 :: u125 :: u126 :: u127 :: u128 :: u129 :: u130 :: u131 :: u132 :: u133 :: u134 :: u135 :: u136 :: u137 :: u138 :: u139 :: u140 :: u141 :: u142 :: u143 :: u144 :: u145 :: u146 :: u147 :: u148 :: u149 :: u150 :: []), []⟩ W0 := by
  have HB0 := Lib.hid h0
  have hmc := HT.out.nc
  have hmb : m ≤ 1125899906842624 := by
    have := HT.out.rb
    unfold reachBytes at this
    omega
  conv => arg 2; arg 1; whnf
  go_loopw [15] (fun iv wr => ∃ i : Nat, i ≤ 20 ∧ iv = .int .i64 i ∧ Hid (Below W0.heap.size W0 wr)) (fun iv _ => 20 - (intOf iv).toNat)
  case atStart => exact ⟨0, Nat.zero_le _, rfl, brefl W0⟩
  case round =>
    obtain ⟨i, hi, rfl, HB⟩ := hrel
    by_cases hm : i < m
    · have hm2 : (i : Int) < (m : Int) := by omega
      have q0 : decide ((i : Int) < (m : Int)) = true := decide_eq_true hm2
      have q01 : decide (i < m) = true := decide_eq_true hm
      by_cases h20 : i < 20
      · have q1 : decide ((i : Int) < 20) = true := decide_eq_true (by omega)
        have q11 : decide (i < 20) = true := decide_eq_true h20
        obtain ⟨b, off, t, rfl, hbw, ht, htl, d0⟩ := HT.out.get (bcall HB0.out HB.out) hm
        have HTX := Lib.hid (HPX.out t)
        have HTL := Lib.hid (HPL.out t)
        obtain ⟨p, hp⟩ : ∃ p, takesB (H.map (·.d)) t = p := ⟨_, rfl⟩
        obtain ⟨q, hq⟩ : ∃ p, takesB (H'.map (·.d)) t = p := ⟨_, rfl⟩
        rw [hp, hq] at HTX
        rw [hp] at HTL
        have HAC : Hid (∀ W, Below wr.heap.size wr W → Calls Tryd.prog 11 #[.slice A n c, .string ⟨t.toArray⟩] W fun e w' => e = .returned (.bool p) ∧ Below wr.heap.size wr w') := fun W hW => by
          have h1 := bcall HB.out hW
          refine (accepts_any W W0.heap.size h1.size A n c H (HA.out.keep h1 (Nat.le_refl _)) t htl).mono ?_
          rintro e w' ⟨rfl, hb⟩
          exact ⟨by rw [hp], bcall hW hb⟩
        have HAC' : Hid (∀ W, Below wr.heap.size wr W → Calls Tryd.prog 11 #[.slice A' n' c', .string ⟨t.toArray⟩] W fun e w' => e = .returned (.bool q) ∧ Below wr.heap.size wr w') := fun W hW => by
          have h1 := bcall HB.out hW
          refine (accepts_any W W0.heap.size h1.size A' n' c' H' (HA'.out.keep h1 (Nat.le_refl _)) t htl).mono ?_
          rintro e w' ⟨rfl, hb⟩
          exact ⟨by rw [hq], bcall hW hb⟩
        have HACX : Hid (∀ W, Below wr.heap.size wr W → Calls Tryd.prog 11 #[.slice Ax nx cx, .string ⟨t.toArray⟩] W fun e w' => e = .returned (.bool (p && q)) ∧ Below wr.heap.size wr w') := fun W hW => by
          have h1 := bcall HB.out hW
          refine (accepts_any W W0.heap.size h1.size Ax nx cx X (HX.out.keep h1 (Nat.le_refl _)) t htl).mono ?_
          rintro e w' ⟨rfl, hb⟩
          exact ⟨by rw [HTX.out], bcall hW hb⟩
        have HACL : Hid (∀ W, Below wr.heap.size wr W → Calls Tryd.prog 11 #[.slice Al nl cl, .string ⟨t.toArray⟩] W fun e w' => e = .returned (.bool p) ∧ Below wr.heap.size wr w') := fun W hW => by
          have h1 := bcall HB.out hW
          refine (accepts_any W W0.heap.size h1.size Al nl cl L (HL.out.keep h1 (Nat.le_refl _)) t htl).mono ?_
          rintro e w' ⟨rfl, hb⟩
          exact ⟨by rw [HTL.out], bcall hW hb⟩
        have HD0 : Hid (∀ W, Below wr.heap.size wr W → W.cell? ⟨b, off + i, none⟩ = some (.string ⟨t.toArray⟩)) := fun W hW => (hW.cell (p := ⟨b, off + i, none⟩) hbw).trans d0
        clear hp hq ht
        have HD1 := Lib.hid (HD0.out wr (brefl wr))
        cases p
        all_goals
          cases q
          all_goals
            go_wp2_with fail
            go_region_held3 (fun w' => w'.cell? ⟨b, off + i, none⟩ = some (.string ⟨t.toArray⟩))
              (first
                | assumption
                | exact HD1.out
                | (refine HD0.out _ ?_; (repeat (first | exact brefl _ | exact HW1.out | exact HW2.out | refine Below.drew ?_ | refine bnew ?_ _)); done))
              (first
                | (go_at_call 11
                   have hw1 := HW1.out
                   clear hw1
                   refine (HAC'.out _ (by repeat (first | exact HW1.out | refine Below.drew ?_ | refine bnew ?_ _))).mono ?_
                   rintro e w2 ⟨rfl, hb2⟩
                   have HW2 := Lib.hid hb2
                   clear hb2)
                | (go_at_call 11
                   refine (HAC.out _ (by repeat (first | exact brefl _ | refine Below.drew ?_ | refine bnew ?_ _))).mono ?_
                   rintro e w1 ⟨rfl, hb1⟩
                   have HW1 := Lib.hid hb1
                   clear hb1))
            all_goals
              go_wp2_with fail
              refine (HACX.out w2 HW2.out).mono ?_
              rintro e w3 ⟨rfl, hb3⟩
              have HW3 := Lib.hid hb3
              have d3 := HD0.out w3 hb3
              have hbw3 : b < w3.heap.size := Nat.lt_of_lt_of_le hbw hb3.size
              clear hb3 HW2
              go_wp2_with fail
              refine (HACL.out w3 HW3.out).mono ?_
              rintro e w4 ⟨rfl, hb4⟩
              have HW4 := Lib.hid (bcall HB.out hb4)
              clear hb4 HW3 HB
              go_wp2_with fail
              go_roundw
              case rel => exact ⟨i + 1, by omega, by go_num, HW4⟩
              case measure => simp [intOf]; omega
      · obtain rfl : i = 20 := by omega
        have q1 : decide ((20 : Int) < 20) = false := decide_eq_false (by omega)
        go_wp2_with fail
    · have q0 : decide ((i : Int) < (m : Int)) = false := decide_eq_false (by omega)
      have q01 : decide (i < m) = false := decide_eq_false hm
      go_wp2_with fail
end Go.Proofs.YtebdffabfimmkaaDoor
/- DfaMeets: the plain law. -/
namespace Go.Proofs.YtebdffabfimmkaaDoor

/-- What the least automaton of the pairs takes. -/
theorem both_takes {a e dd out : List St} (ha : Good a) (he : Good e) (hl : LeastIs (auOf dd) 0 out) (hq : Leq (auOf dd) 0 ⟨finP a e, stepP a e⟩ [0, 0]) (hlen : out.length ≤ 20000) (t : List UInt8) : takesB out t = (takesB a t && takesB e t) := by
  have hg := hl.good hlen
  unfold takesB
  rw [decide_eq_true ((good_iff _).2 hg), decide_eq_true ((good_iff _).2 ha), decide_eq_true ((good_iff _).2 he), Bool.true_and, Bool.true_and, Bool.true_and]
  have h1 := (hl.leq.trans hq) (bytesN t)
  rw [h1]
  exact pair_acc a e (bytesN t) 0 0
theorem least_takes {a out : List St} (ha : Good a) (hl : LeastIs (auOf a) 0 out) (hlen : out.length ≤ 20000) (t : List UInt8) : takesB out t = takesB a t := by
  have hg := hl.good hlen
  unfold takesB
  rw [decide_eq_true ((good_iff _).2 hg), decide_eq_true ((good_iff _).2 ha), Bool.true_and, Bool.true_and]
  exact hl.leq (bytesN t)
theorem both_self {a dd s l : List St} (hl : LeastIs (auOf dd) 0 s) (hq : Leq (auOf dd) 0 ⟨finP a a, stepP a a⟩ [0, 0]) (hl2 : LeastIs (auOf a) 0 l) : s = l := by
  refine hl.eq hl2 (hq.trans fun t => ?_)
  rw [show (⟨finP a a, stepP a a⟩ : Au (List Int)).acc [0, 0] t = _ from pair_acc a a t 0 0]
  show ((auOf a).acc 0 t && (auOf a).acc 0 t) = _
  rw [Bool.and_self]
theorem least_again {a l m : List St} (hl : LeastIs (auOf a) 0 l) (hm : LeastIs (auOf l) 0 m) : l = m := hl.eq hm hl.leq.symm
end Go.Proofs.YtebdffabfimmkaaDoor
