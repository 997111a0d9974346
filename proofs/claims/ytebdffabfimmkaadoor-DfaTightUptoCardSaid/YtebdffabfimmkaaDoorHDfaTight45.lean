/- Arguments of texts. -/
import Derived.Test.YtebdffabfimmkaaDoorChecked
import Derived.Test.YtebdffabfimmkaaDoorHDfaTight1
import Derived.Test.YtebdffabfimmkaaDoorHDfaTight44
import Derived.Test.YtebdffabfimmkaaDoorHDfaTight14
import Derived.Test.YtebdffabfimmkaaDoorHDfaTight28
import Derived.Test.YtebdffabfimmkaaDoorHDfaTight15
import Derived.Test.YtebdffabfimmkaaDoorHDfaTight7
import Derived.Test.YtebdffabfimmkaaDoorHDfaTight39
import Derived.Test.YtebdffabfimmkaaDoorHDfaTight27
import Derived.Test.YtebdffabfimmkaaDoorHDfaTight11
namespace Go.Proofs.YtebdffabfimmkaaDoor
open Go.RowKit Go.Maps

theorem ty_texts : tyOf Tryd.prog 8 43 = some (.slice .str 16) := by kernel_rfl
/-- An argument of texts. -/
structure TextsIn (w : World) (A : Option Addr) (n c : Nat) (x : Nat → ByteArray) : Prop where
  nc : n ≤ c
  cm : c ≤ maxLen
  rb : n * 16 ≤ reachBytes
  sl : Sl w w.heap.size 1 A n ((List.range n).map fun i => .string (x i))
  sz : ∀ i, i < n → (x i).size ≤ reachBytes
theorem texts_in {w : World} {A : Option Addr} {n c : Nat} {x : Nat → Ty.str.den} {cs : List Value} (h : Reads w w.heap.size (.slice .str 16) (⟨A, n, c⟩, x) cs) : TextsIn w A n c x := by
  have hs := h.sl (e := .str) (fun d => rfl)
  refine ⟨h.2.1.1, h.2.1.2.1, h.2.1.2.2.1, ?_, fun i hi => ?_⟩
  · have e : ((List.range n).flatMap fun i => Ty.cells .str (x i)) = (List.range n).map fun i => .string (x i) := by
      rw [List.map_eq_flatMap]
      rfl
    rw [← e]
    exact hs
  · obtain ⟨cl, z, hz, _, h1, h2⟩ := h.elem hi
    have hz' : (x i : ByteArray) = z := hz
    rw [hz']
    exact h2
/-- One of the texts. -/
theorem TextsIn.get {w W : World} {A : Option Addr} {n c : Nat} {x : Nat → ByteArray} (h : TextsIn w A n c x) (hb : Below w.heap.size w W) {i : Nat} (hi : i < n) : ∃ b off t, A = some ⟨b, off, none⟩ ∧ b < W.heap.size ∧ x i = ⟨(t : List UInt8).toArray⟩ ∧ t.length ≤ 1125899906842624 ∧ W.cell? ⟨b, off + i, none⟩ = some (.string ⟨t.toArray⟩) := by
  obtain ⟨b, off, hA, hb0, hcell⟩ := h.sl.at_ hi
  have hc0 := hcell i (.string (x i)) (by rw [List.getElem?_map, List.getElem?_range hi]; rfl)
  have ht : x i = ⟨(x i).data.toList.toArray⟩ := by cases x i; simp
  refine ⟨b, off, (x i).data.toList, hA, Nat.lt_of_lt_of_le hb0 hb.size, ht, ?_, ?_⟩
  · have h1 := h.sz i hi
    have h2 : (x i).data.toList.length = (x i).size := rfl
    rw [h2]
    unfold reachBytes at h1
    omega
  · rw [← ht]
    exact (hb.cell (p := ⟨b, off + i, none⟩) hb0).trans hc0
end Go.Proofs.YtebdffabfimmkaaDoor
/- The loop of DfaMeets over the texts. -/
namespace Go.Proofs.YtebdffabfimmkaaDoor
open Go.RowKit Go.Maps

set_option linter.unusedVariables false in
set_option maxRecDepth 100000 in
set_option maxHeartbeats 8000000 in
theorem meets_loop (w W0 : World) (h0 : Below w.heap.size w W0) (A A' Ax Al : Option Addr) (n c n' c' nx cx nl cl : Nat) (H H' X L : List Sh) (HA : Hid (StsIn W0 W0.heap.size A n c H)) (HA' : Hid (StsIn W0 W0.heap.size A' n' c' H')) (HX : Hid (StsIn W0 W0.heap.size Ax nx cx X)) (HL : Hid (StsIn W0 W0.heap.size Al nl cl L))
    (At : Option Addr) (m ct : Nat) (y : Nat → ByteArray) (HT : Hid (TextsIn w At m ct y)) (HPX : Hid (∀ t, takesB (X.map (·.d)) t = (takesB (H.map (·.d)) t && takesB (H'.map (·.d)) t))) (HPL : Hid (∀ t, takesB (L.map (·.d)) t = takesB (H.map (·.d)) t))
    (c3 c4 c5 c8 c10 c11 c12 c13 c14 c18 c19 c20 c21 c22 c23 c24 c25 c26 c27 c28 c29 c30 c31 c32 c33 c34 c35 c36 c37 c38 c39 c40 c41 c42 c43 c44 c45 c46 c47 c48 c49 c50 c51 c52 c53 c54 c55 c56 c57 c58 c59 c60 c61 c62 c63 c64 c65 c66 c67 c68 c69 c70 c71 c72 c73 c74 c75 c76 c77 c78 c79 c80 c81 c82 c83 c84 c85 c86 c87 c88 c89 c90 c91 c92 c93 c94 c95 c96 c97 c98 c99 c100 c101 c102 c103 c104 c105 c106 c107 u6 u16 u17 u108 u109 u110 u111 u112 u113 u114 u115 u116 u117 u118 u119 u120 u121 u122 u123 u124 u125 u126 u127 u128 u129 u130 u131 u132 u133 u134 u135 u136 u137 u138 u139 u140 u141 u142 u143 u144 u145 u146 u147 u148 u149 u150 : Value) (Q0 : Exit → Act → World → Prop) (hQ0 : ∀ c (a a' : Act) w, a.defers = a'.defers → Q0 (.panic c) a w → Q0 (.panic c) a' w)
    (hexit : ∀ (i : Nat) (W : World) (u6 u16 u17 u108 u109 u110 u111 u112 u113 u114 u115 u116 u117 u118 u119 u120 u121 u122 u123 u124 u125 u126 u127 u128 u129 u130 u131 u132 u133 u134 u135 u136 u137 u138 u139 u140 u141 u142 u143 u144 u145 u146 u147 u148 u149 u150 : Value), Hid (Below W0.heap.size W0 W) → Q0 (.exit 0) ⟨List.toArray (.slice A n c :: .slice A' n' c' :: .slice At m ct :: c3 :: c4 :: c5 :: u6 :: .slice Ax nx cx :: c8 :: .slice Al nl cl :: c10 :: c11 :: c12 :: c13 :: c14 :: .int .i64 (i : Int) :: u16 :: u17 :: c18 :: c19 :: c20 :: c21 :: c22 :: c23 :: c24 :: c25 :: c26 :: c27 :: c28 :: c29 :: c30 :: c31 :: c32 :: c33 :: c34 :: c35 :: c36 :: c37 :: c38 :: c39 :: c40 :: c41 :: c42 :: c43 :: c44 :: c45 :: c46 :: c47 :: c48 :: c49 :: c50 :: c51 :: c52 :: c53 :: c54 :: c55 :: c56 :: c57 :: c58 :: c59 :: c60 :: c61 :: c62 :: c63 :: c64 :: c65 :: c66 :: c67 :: c68 :: c69 :: c70 :: c71 :: c72 :: c73 :: c74 :: c75 :: c76 :: c77 :: c78 :: c79 :: c80 :: c81 :: c82 :: c83 :: c84 :: c85 :: c86 :: c87 :: c88 :: c89 :: c90 :: c91 :: c92 :: c93 :: c94 :: c95 :: c96 :: c97 :: c98 :: c99 :: c100 :: c101 :: c102 :: c103 :: c104 :: c105 :: c106 :: c107 :: u108 :: u109 :: u110 :: u111 :: u112 :: u113 :: u114 :: u115 :: u116 :: u117 :: u118 :: u119 :: u120 :: u121 :: u122 :: u123 :: u124 :: u125 :: u126 :: u127 :: u128 :: u129 :: u130 :: u131 :: u132 :: u133 :: u134 :: u135 :: u136 :: u137 :: u138 :: u139 :: u140 :: u141 :: u142 :: u143 :: u144 :: u145 :: u146 :: u147 :: u148 :: u149 :: u150 :: []), []⟩ W) :
    Code.wp Tryd.prog (.loop (loopOf Tryd.f7 0)) Q0 ⟨List.toArray (.slice A n c :: .slice A' n' c' :: .slice At m ct :: c3 :: c4 :: c5 :: u6 :: .slice Ax nx cx :: c8 :: .slice Al nl cl :: c10 :: c11 :: c12 :: c13 :: c14 :: .int .i64 (0 : Int) :: u16 :: u17 :: c18 :: c19 :: c20 :: c21 :: c22 :: c23 :: c24 :: c25 :: c26 :: c27 :: c28 :: c29 :: c30 :: c31 :: c32 :: c33 :: c34 :: c35 :: c36 :: c37 :: c38 :: c39 :: c40 :: c41 :: c42 :: c43 :: c44 :: c45 :: c46 :: c47 :: c48 :: c49 :: c50 :: c51 :: c52 :: c53 :: c54 :: c55 :: c56 :: c57 :: c58 :: c59 :: c60 :: c61 :: c62 :: c63 :: c64 :: c65 :: c66 :: c67 :: c68 :: c69 :: c70 :: c71 :: c72 :: c73 :: c74 :: c75 :: c76 :: c77 :: c78 :: c79 :: c80 :: c81 :: c82 :: c83 :: c84 :: c85 :: c86 :: c87 :: c88 :: c89 :: c90 :: c91 :: c92 :: c93 :: c94 :: c95 :: c96 :: c97 :: c98 :: c99 :: c100 :: c101 :: c102 :: c103 :: c104 :: c105 :: c106 :: c107 :: u108 :: u109 :: u110 :: u111 :: u112 :: u113 :: u114 :: u115 :: u116 :: u117 :: u118 :: u119 :: u120 :: u121 :: u122 :: u123 :: u124 :: u125 :: u126 :: u127 :: u128 :: u129 :: u130 :: u131 :: u132 :: u133 :: u134 :: u135 :: u136 :: u137 :: u138 :: u139 :: u140 :: u141 :: u142 :: u143 :: u144 :: u145 :: u146 :: u147 :: u148 :: u149 :: u150 :: []), []⟩ W0 := by
  have HB0 := Lib.hid h0
  have hmc := HT.out.nc
  have hmb : m ≤ 1125899906842624 := by
    have := HT.out.rb
    unfold reachBytes at this
    omega
  conv => arg 2; arg 1; whnf
  go_loopw [15] (fun iv wr => ∃ i : Nat, i ≤ 20 ∧ iv = .int .i64 i ∧ Hid (Below W0.heap.size W0 wr)) (fun iv _ => 20 - (intOf iv).toNat)
  case atStart => exact ⟨0, Nat.zero_le _, rfl, brefl W0⟩
  case round =>
    obtain ⟨i, hi, rfl, HB⟩ := hrel
    by_cases hm : i < m
    · have hm2 : (i : Int) < (m : Int) := by omega
      have q0 : decide ((i : Int) < (m : Int)) = true := decide_eq_true hm2
      have q01 : decide (i < m) = true := decide_eq_true hm
      by_cases h20 : i < 20
      · have q1 : decide ((i : Int) < 20) = true := decide_eq_true (by omega)
        have q11 : decide (i < 20) = true := decide_eq_true h20
        obtain ⟨b, off, t, rfl, hbw, ht, htl, d0⟩ := HT.out.get (bcall HB0.out HB.out) hm
        have HTX := Lib.hid (HPX.out t)
        have HTL := Lib.hid (HPL.out t)
        obtain ⟨p, hp⟩ : ∃ p, takesB (H.map (·.d)) t = p := ⟨_, rfl⟩
        obtain ⟨q, hq⟩ : ∃ p, takesB (H'.map (·.d)) t = p := ⟨_, rfl⟩
        rw [hp, hq] at HTX
        rw [hp] at HTL
        have HAC : Hid (∀ W, Below wr.heap.size wr W → Calls Tryd.prog 11 #[.slice A n c, .string ⟨t.toArray⟩] W fun e w' => e = .returned (.bool p) ∧ Below wr.heap.size wr w') := fun W hW => by
          have h1 := bcall HB.out hW
          refine (accepts_any W W0.heap.size h1.size A n c H (HA.out.keep h1 (Nat.le_refl _)) t htl).mono ?_
          rintro e w' ⟨rfl, hb⟩
          exact ⟨by rw [hp], bcall hW hb⟩
        have HAC' : Hid (∀ W, Below wr.heap.size wr W → Calls Tryd.prog 11 #[.slice A' n' c', .string ⟨t.toArray⟩] W fun e w' => e = .returned (.bool q) ∧ Below wr.heap.size wr w') := fun W hW => by
          have h1 := bcall HB.out hW
          refine (accepts_any W W0.heap.size h1.size A' n' c' H' (HA'.out.keep h1 (Nat.le_refl _)) t htl).mono ?_
          rintro e w' ⟨rfl, hb⟩
          exact ⟨by rw [hq], bcall hW hb⟩
        have HACX : Hid (∀ W, Below wr.heap.size wr W → Calls Tryd.prog 11 #[.slice Ax nx cx, .string ⟨t.toArray⟩] W fun e w' => e = .returned (.bool (p && q)) ∧ Below wr.heap.size wr w') := fun W hW => by
          have h1 := bcall HB.out hW
          refine (accepts_any W W0.heap.size h1.size Ax nx cx X (HX.out.keep h1 (Nat.le_refl _)) t htl).mono ?_
          rintro e w' ⟨rfl, hb⟩
          exact ⟨by rw [HTX.out], bcall hW hb⟩
        have HACL : Hid (∀ W, Below wr.heap.size wr W → Calls Tryd.prog 11 #[.slice Al nl cl, .string ⟨t.toArray⟩] W fun e w' => e = .returned (.bool p) ∧ Below wr.heap.size wr w') := fun W hW => by
          have h1 := bcall HB.out hW
          refine (accepts_any W W0.heap.size h1.size Al nl cl L (HL.out.keep h1 (Nat.le_refl _)) t htl).mono ?_
          rintro e w' ⟨rfl, hb⟩
          exact ⟨by rw [HTL.out], bcall hW hb⟩
        have HD0 : Hid (∀ W, Below wr.heap.size wr W → W.cell? ⟨b, off + i, none⟩ = some (.string ⟨t.toArray⟩)) := fun W hW => (hW.cell (p := ⟨b, off + i, none⟩) hbw).trans d0
        clear hp hq ht
        have HD1 := Lib.hid (HD0.out wr (brefl wr))
        cases p
        all_goals
          cases q
          all_goals
            go_wp2_with fail
            go_region_held3 (fun w' => w'.cell? ⟨b, off + i, none⟩ = some (.string ⟨t.toArray⟩))
              (first
                | assumption
                | exact HD1.out
                | (refine HD0.out _ ?_; (repeat (first | exact brefl _ | exact HW1.out | exact HW2.out | refine Below.drew ?_ | refine bnew ?_ _)); done))
              (first
                | (go_at_call 11
                   have hw1 := HW1.out
                   clear hw1
                   refine (HAC'.out _ (by repeat (first | exact HW1.out | refine Below.drew ?_ | refine bnew ?_ _))).mono ?_
                   rintro e w2 ⟨rfl, hb2⟩
                   have HW2 := Lib.hid hb2
                   clear hb2)
                | (go_at_call 11
                   refine (HAC.out _ (by repeat (first | exact brefl _ | refine Below.drew ?_ | refine bnew ?_ _))).mono ?_
                   rintro e w1 ⟨rfl, hb1⟩
                   have HW1 := Lib.hid hb1
                   clear hb1))
            all_goals
              go_wp2_with fail
              refine (HACX.out w2 HW2.out).mono ?_
              rintro e w3 ⟨rfl, hb3⟩
              have HW3 := Lib.hid hb3
              have d3 := HD0.out w3 hb3
              have hbw3 : b < w3.heap.size := Nat.lt_of_lt_of_le hbw hb3.size
              clear hb3 HW2
              go_wp2_with fail
              refine (HACL.out w3 HW3.out).mono ?_
              rintro e w4 ⟨rfl, hb4⟩
              have HW4 := Lib.hid (bcall HB.out hb4)
              clear hb4 HW3 HB
              go_wp2_with fail
              go_roundw
              case rel => exact ⟨i + 1, by omega, by go_num, HW4⟩
              case measure => simp [intOf]; omega
      · obtain rfl : i = 20 := by omega
        have q1 : decide ((20 : Int) < 20) = false := decide_eq_false (by omega)
        go_wp2_with fail
    · have q0 : decide ((i : Int) < (m : Int)) = false := decide_eq_false (by omega)
      have q01 : decide (i < m) = false := decide_eq_false hm
      go_wp2_with fail
end Go.Proofs.YtebdffabfimmkaaDoor
/- DfaMeets: the plain law. -/
namespace Go.Proofs.YtebdffabfimmkaaDoor

/-- What the least automaton of the pairs takes. -/
theorem both_takes {a e dd out : List St} (ha : Good a) (he : Good e) (hl : LeastIs (auOf dd) 0 out) (hq : Leq (auOf dd) 0 ⟨finP a e, stepP a e⟩ [0, 0]) (hlen : out.length ≤ 20000) (t : List UInt8) : takesB out t = (takesB a t && takesB e t) := by
  have hg := hl.good hlen
  unfold takesB
  rw [decide_eq_true ((good_iff _).2 hg), decide_eq_true ((good_iff _).2 ha), decide_eq_true ((good_iff _).2 he), Bool.true_and, Bool.true_and, Bool.true_and]
  have h1 := (hl.leq.trans hq) (bytesN t)
  rw [h1]
  exact pair_acc a e (bytesN t) 0 0
theorem least_takes {a out : List St} (ha : Good a) (hl : LeastIs (auOf a) 0 out) (hlen : out.length ≤ 20000) (t : List UInt8) : takesB out t = takesB a t := by
  have hg := hl.good hlen
  unfold takesB
  rw [decide_eq_true ((good_iff _).2 hg), decide_eq_true ((good_iff _).2 ha), Bool.true_and, Bool.true_and]
  exact hl.leq (bytesN t)
theorem both_self {a dd s l : List St} (hl : LeastIs (auOf dd) 0 s) (hq : Leq (auOf dd) 0 ⟨finP a a, stepP a a⟩ [0, 0]) (hl2 : LeastIs (auOf a) 0 l) : s = l := by
  refine hl.eq hl2 (hq.trans fun t => ?_)
  rw [show (⟨finP a a, stepP a a⟩ : Au (List Int)).acc [0, 0] t = _ from pair_acc a a t 0 0]
  show ((auOf a).acc 0 t && (auOf a).acc 0 t) = _
  rw [Bool.and_self]
theorem least_again {a l m : List St} (hl : LeastIs (auOf a) 0 l) (hm : LeastIs (auOf l) 0 m) : l = m := hl.eq hm hl.leq.symm
end Go.Proofs.YtebdffabfimmkaaDoor
/- glosslaw08.awake. -/
namespace Go.Proofs.YtebdffabfimmkaaDoor
open Go.RowKit Go.Maps

def oneH (b : Nat) : List Sh := [⟨(false, [(97, 98, 0), (99, 99, 1)]), some ⟨b, 0, none⟩, 2⟩, ⟨(true, []), none, 0⟩]
theorem oneH_d (b : Nat) : (oneH b).map (·.d) = oneD := rfl
set_option maxRecDepth 100000 in
set_option maxHeartbeats 8000000 in
theorem one_any (w : World) :
    Calls Tryd.prog 25 #[] w fun e w' => ∃ A b, e = .returned (.slice A 2 2) ∧ StsIn w' w'.heap.size A 2 2 (oneH b) ∧ Below w.heap.size w w' := by
  go_enter Tryd.func25, Tryd.ntmps25
  go_wp2_with fail
  go_ret
  have h1 := own_new w #[.int .i64 97, .int .i64 98, .int .i64 0, .int .i64 99, .int .i64 99, .int .i64 1] 41 3 2 rfl (by unfold maxLen; omega) (nb := w.heap.size) rfl (Nat.le_refl _)
  have h2 := own_new (w.alloc (.cells #[.int .i64 97, .int .i64 98, .int .i64 0, .int .i64 99, .int .i64 99, .int .i64 1] 41)) #[.bool false, .slice (some ⟨w.heap.size, 0, none⟩) 2 2, .bool true, .slice none 0 0] 39 2 2 rfl (by unfold maxLen; omega) (nb := w.heap.size + 1) (by simp) (base := w.heap.size) (by simp)
  have h3 := own_kept h1 (bnew (brefl _) (.cells #[.bool false, .slice (some ⟨w.heap.size, 0, none⟩) 2 2, .bool true, .slice none 0 0] 39))
  refine ⟨_, w.heap.size, rfl, ?_, bnew (bnew (brefl w) _) _⟩
  have h4 : OwnSts ((w.alloc (.cells #[.int .i64 97, .int .i64 98, .int .i64 0, .int .i64 99, .int .i64 99, .int .i64 1] 41)).alloc (.cells #[.bool false, .slice (some ⟨w.heap.size, 0, none⟩) 2 2, .bool true, .slice none 0 0] 39)) w.heap.size (.slice (some ⟨w.heap.size + 1, 0, none⟩) 2 2) (oneH w.heap.size) := by
    refine ⟨h2, ⟨fun z hz => ?_, ?_⟩⟩
    · simp only [oneH, List.map_cons, List.map_nil, List.mem_cons, List.not_mem_nil, or_false] at hz
      rcases hz with rfl | rfl
      · exact h3
      · exact GRow.own_nil _ _ _ _
    · refine List.pairwise_cons.2 ⟨fun z hz => ?_, List.pairwise_singleton _ _⟩
      rw [List.mem_singleton.1 hz]
      exact .inr (.inl rfl)
  exact h4.sts rfl (by omega) (fun x hx => by
    simp only [oneH, List.mem_cons, List.not_mem_nil, or_false] at hx
    rcases hx with rfl | rfl
    · show 2 ≤ _; omega
    · exact Nat.zero_le _)
def lAwH (b : Nat) : List Lsh := [⟨⟨false, [(97, 98, 0)], [1]⟩, some ⟨b, 0, none⟩, 1, some ⟨b + 1, 0, none⟩, 1⟩, ⟨⟨false, [(99, 99, 2)], []⟩, some ⟨b + 1 + 1, 0, none⟩, 1, none, 0⟩, ⟨⟨true, [], []⟩, none, 0, none, 0⟩]
theorem lAwH_d (b : Nat) : (lAwH b).map (·.d) = lAw := rfl
theorem lAw_in (w : World) {W : World} (hW : W = (((w.alloc (.cells #[.int .i64 97, .int .i64 98, .int .i64 0] 41)).alloc (.cells #[.int .i64 1] 3)).alloc (.cells #[.int .i64 99, .int .i64 99, .int .i64 2] 41)).alloc (.cells #[.bool false, .slice (some ⟨w.heap.size, 0, none⟩) 1 1, .slice (some ⟨w.heap.size + 1, 0, none⟩) 1 1, .bool false, .slice (some ⟨w.heap.size + 1 + 1, 0, none⟩) 1 1, .slice none 0 0, .bool true, .slice none 0 0, .slice none 0 0] 56)) :
    LoIn W W.heap.size (some ⟨w.heap.size + 1 + 1 + 1, 0, none⟩) 3 3 (lAwH w.heap.size) ∧ Below w.heap.size w W := by
  subst hW
  have b1 := bnew (brefl w) (.cells #[.int .i64 97, .int .i64 98, .int .i64 0] 41)
  have b2 := bnew b1 (.cells #[.int .i64 1] 3)
  have b3 := bnew b2 (.cells #[.int .i64 99, .int .i64 99, .int .i64 2] 41)
  have o1 := own_new w #[.int .i64 97, .int .i64 98, .int .i64 0] 41 3 1 rfl (by unfold maxLen; omega) (nb := w.heap.size) rfl (base := 0) (Nat.zero_le _)
  have o2 := own_new (w.alloc (.cells #[.int .i64 97, .int .i64 98, .int .i64 0] 41)) #[.int .i64 1] 3 1 1 rfl (by unfold maxLen; omega) (nb := w.heap.size + 1) (by simp) (base := 0) (Nat.zero_le _)
  have o3 := own_new ((w.alloc (.cells #[.int .i64 97, .int .i64 98, .int .i64 0] 41)).alloc (.cells #[.int .i64 1] 3)) #[.int .i64 99, .int .i64 99, .int .i64 2] 41 3 1 rfl (by unfold maxLen; omega) (nb := w.heap.size + 1 + 1) (by simp) (base := 0) (Nat.zero_le _)
  have o4 := own_new (((w.alloc (.cells #[.int .i64 97, .int .i64 98, .int .i64 0] 41)).alloc (.cells #[.int .i64 1] 3)).alloc (.cells #[.int .i64 99, .int .i64 99, .int .i64 2] 41)) #[.bool false, .slice (some ⟨w.heap.size, 0, none⟩) 1 1, .slice (some ⟨w.heap.size + 1, 0, none⟩) 1 1, .bool false, .slice (some ⟨w.heap.size + 1 + 1, 0, none⟩) 1 1, .slice none 0 0, .bool true, .slice none 0 0, .slice none 0 0] 56 3 3 rfl (by unfold maxLen; omega) (nb := w.heap.size + 1 + 1 + 1) (by simp) (base := 0) (Nat.zero_le _)
  have p1 := Sl.of_own (own_kept (own_kept (own_kept o1 (bnew (brefl _) (.cells #[.int .i64 1] 3))) (bnew (brefl _) (.cells #[.int .i64 99, .int .i64 99, .int .i64 2] 41))) (bnew (brefl _) (.cells #[.bool false, .slice (some ⟨w.heap.size, 0, none⟩) 1 1, .slice (some ⟨w.heap.size + 1, 0, none⟩) 1 1, .bool false, .slice (some ⟨w.heap.size + 1 + 1, 0, none⟩) 1 1, .slice none 0 0, .bool true, .slice none 0 0, .slice none 0 0] 56)))
  have p2 := Sl.of_own (own_kept (own_kept o2 (bnew (brefl _) (.cells #[.int .i64 99, .int .i64 99, .int .i64 2] 41))) (bnew (brefl _) (.cells #[.bool false, .slice (some ⟨w.heap.size, 0, none⟩) 1 1, .slice (some ⟨w.heap.size + 1, 0, none⟩) 1 1, .bool false, .slice (some ⟨w.heap.size + 1 + 1, 0, none⟩) 1 1, .slice none 0 0, .bool true, .slice none 0 0, .slice none 0 0] 56)))
  have p3 := Sl.of_own (own_kept o3 (bnew (brefl _) (.cells #[.bool false, .slice (some ⟨w.heap.size, 0, none⟩) 1 1, .slice (some ⟨w.heap.size + 1, 0, none⟩) 1 1, .bool false, .slice (some ⟨w.heap.size + 1 + 1, 0, none⟩) 1 1, .slice none 0 0, .bool true, .slice none 0 0, .slice none 0 0] 56)))
  refine ⟨⟨rfl, Sl.of_own o4, Nat.le_refl _, by omega, fun x hx => ?_, fun x hx => ?_⟩, bnew b3 _⟩
  · simp only [lAwH, List.mem_cons, List.not_mem_nil, or_false] at hx
    rcases hx with rfl | rfl | rfl
    · exact ⟨p1, Nat.le_refl _, by show 1 ≤ _; omega⟩
    · exact ⟨p3, Nat.le_refl _, by show 1 ≤ _; omega⟩
    · exact ⟨Sl.empty, Nat.le_refl _, Nat.zero_le _⟩
  · simp only [lAwH, List.mem_cons, List.not_mem_nil, or_false] at hx
    rcases hx with rfl | rfl | rfl
    · exact ⟨p2, Nat.le_refl _, by show 1 ≤ _; omega, fun e => by cases e⟩
    · exact ⟨Sl.empty, Nat.le_refl _, Nat.zero_le _, fun _ => rfl⟩
    · exact ⟨Sl.empty, Nat.le_refl _, Nat.zero_le _, fun _ => rfl⟩
set_option maxRecDepth 100000 in
set_option maxHeartbeats 8000000 in
theorem awake_any (w : World) (ht : Tab w) :
    Calls Tryd.prog 8 #[] w fun e w' => e = .returned (.bool true) ∧ Below w.heap.size w w' := by
  obtain ⟨W, hW⟩ : ∃ W, W = (((w.alloc (.cells #[.int .i64 97, .int .i64 98, .int .i64 0] 41)).alloc (.cells #[.int .i64 1] 3)).alloc (.cells #[.int .i64 99, .int .i64 99, .int .i64 2] 41)).alloc (.cells #[.bool false, .slice (some ⟨w.heap.size, 0, none⟩) 1 1, .slice (some ⟨w.heap.size + 1, 0, none⟩) 1 1, .bool false, .slice (some ⟨w.heap.size + 1 + 1, 0, none⟩) 1 1, .slice none 0 0, .bool true, .slice none 0 0, .slice none 0 0] 56) := ⟨_, rfl⟩
  have HIN := Lib.hid (lAw_in w hW)
  have HTW := Lib.hid (ht.below HIN.out.2)
  have HTI := Lib.hid (tight_any W W.heap.size (Nat.le_refl _) _ 3 3 _ HIN.out.1 (by omega) (by rw [lAwH_d]; exact lAw_good) 9 (by omega) HTW.out)
  rw [lAwH_d] at HTI
  have HW := Lib.hid hW
  clear hW ht
  go_enter Tryd.func8, Tryd.ntmps8
  go_wp2_with fail
  rw [← HW.out]
  refine HTI.out.mono ?_
  rintro e w1 (⟨⟨f, hf⟩, _⟩ | ⟨_, v, hs, d, rfl, hown, hl, hlq, hle, _, hb1⟩)
  · have := lAw_few f
    omega
  have hdd : hs.map (·.d) = oneD := hl.eq one_least (hlq.trans aw_leq.symm)
  have hlen : hs.length = 2 := by
    have := congrArg List.length hdd
    rw [List.length_map] at this
    exact this
  obtain ⟨A1, c1, rfl, _⟩ := own_shape hown.out
  rw [hlen]
  rw [hlen] at hown
  have HDD := Lib.hid hdd
  have HS1 := Lib.hid (hown.sts hlen (by omega) (fun x hx => by
    have h1 : x.d ∈ oneD := by rw [← hdd]; exact List.mem_map_of_mem hx
    simp only [oneD, List.mem_cons, List.not_mem_nil, or_false] at h1
    rcases h1 with h1 | h1 <;> rw [h1]
    · show 2 ≤ _; omega
    · exact Nat.zero_le _))
  have HB1 := Lib.hid (bcall HIN.out.2 hb1)
  clear hdd hlen hown hl hlq hle hb1 HTI
  go_wp2_with fail
  refine (one_any w1).mono ?_
  rintro e w2 ⟨A2, b2, rfl, hs2, hb2⟩
  have HS2 := Lib.hid hs2
  have HS12 := Lib.hid (HS1.out.keep hb2 hb2.size)
  have HB2 := Lib.hid (bcall HB1.out hb2)
  clear hs2 hb2 HS1 HB1
  go_wp2_with fail
  refine (rsame_any w2 w2.heap.size (Nat.le_refl _) A1 A2 2 c1 2 2 hs (oneH b2) HS12.out HS2.out).mono ?_
  rw [HDD.out, oneH_d]
  rintro e w3 ⟨rfl, hb3⟩
  have q1 : decide (oneD = oneD) = true := decide_eq_true rfl
  have HB3 := Lib.hid (bcall HB2.out hb3)
  clear hb3 HS12 HS2 HB2
  rw [q1]
  go_wp2_with fail
  refine (one_any w3).mono ?_
  rintro e w4 ⟨A4, b4, rfl, hs4, hb4⟩
  have HS4 := Lib.hid hs4
  have HB4 := Lib.hid (bcall HB3.out hb4)
  clear hs4 hb4 HB3
  go_wp2_with fail
  refine (accepts_any w4 w4.heap.size (Nat.le_refl _) A4 2 2 (oneH b4) HS4.out [97, 98, 99] (by decide)).mono ?_
  rw [oneH_d]
  rintro e w5 ⟨rfl, hb5⟩
  have q2 : takesB oneD [97, 98, 99] = true := by decide
  have HB5 := Lib.hid (bcall HB4.out hb5)
  clear hb5 HS4 HB4
  rw [q2]
  go_wp2_with fail
  refine (one_any w5).mono ?_
  rintro e w6 ⟨A6, b6, rfl, hs6, hb6⟩
  have HS6 := Lib.hid hs6
  have HB6 := Lib.hid (bcall HB5.out hb6)
  clear hs6 hb6 HB5
  go_wp2_with fail
  refine (accepts_any w6 w6.heap.size (Nat.le_refl _) A6 2 2 (oneH b6) HS6.out [97, 98] (by decide)).mono ?_
  rw [oneH_d]
  rintro e w7 ⟨rfl, hb7⟩
  have q3 : takesB oneD [97, 98] = false := by decide
  have HB7 := Lib.hid (bcall HB6.out hb7)
  clear hb7 HS6 HB6
  rw [q3]
  go_wp2_with fail
  refine (one_any w7).mono ?_
  rintro e w8 ⟨A8, b8, rfl, hs8, hb8⟩
  have HS8 := Lib.hid hs8
  have HB8 := Lib.hid (bcall HB7.out hb8)
  clear hs8 hb8 HB7
  go_wp2_with fail
  refine (dcheck_any w8 w8.heap.size (Nat.le_refl _) A8 2 2 (oneH b8) HS8.out).mono ?_
  rw [oneH_d]
  rintro e w9 ⟨rfl, hb9⟩
  have q4 : checkE oneD = 0 := by decide
  have HB9 := Lib.hid (bcall HB8.out hb9)
  clear hb9 HS8 HB8
  rw [q4]
  go_wp2_with fail
  go_ret
  exact ⟨rfl, HB9.out⟩
end Go.Proofs.YtebdffabfimmkaaDoor
/- Arguments of states, of loose states. -/
namespace Go.Proofs.YtebdffabfimmkaaDoor
open Go.RowKit

abbrev tArc : Ty := .cons (.int .i64) (.cons (.int .i64) (.cons (.int .i64) .nil))
abbrev tState : Ty := .cons .bool (.cons (.slice tArc 24) .nil)
theorem ty_states : tyOf Tryd.prog 8 22 = some (.slice tState 32) := by kernel_rfl
def arcOf (d : tArc.den) : Arc3 := ((show Int from d.1), (show Int from d.2.1), (show Int from d.2.2.1))
def shOf (d : tState.den) : Sh := ⟨((show Bool from d.1), (List.range (show SlH from d.2.1.1).n).map fun q => arcOf (d.2.1.2 q)), (show SlH from d.2.1.1).A, (show SlH from d.2.1.1).c⟩
def shL (n : Nat) (x : Nat → tState.den) : List Sh := (List.range n).map fun i => shOf (x i)
theorem arcs_cells (m : Nat) (f : Nat → tArc.den) : arcsC ((List.range m).map fun q => arcOf (f q)) = (List.range m).flatMap fun q => Ty.cells tArc (f q) := by
  unfold arcsC
  rw [List.flatMap_map]
  rfl
theorem sts_in {w : World} {A : Option Addr} {n c : Nat} {x : Nat → tState.den} {cs : List Value} (h : Reads w w.heap.size (.slice tState 32) (⟨A, n, c⟩, x) cs) : StsIn w w.heap.size A n c (shL n x) := by
  have hs := h.sl (e := tState) (fun d => rfl)
  have hb : n * 32 ≤ reachBytes := h.2.1.2.2.1
  have hlen : ∀ i, (shOf (x i)).d.2.length = (show SlH from (x i).2.1.1).n := fun i => by
    show ((List.range _).map _).length = _
    rw [List.length_map, List.length_range]
  refine ⟨by unfold shL; rw [List.length_map, List.length_range], ?_, h.2.1.1, by unfold reachBytes at hb; omega, fun y hy => ?_⟩
  · have e : (shL n x).flatMap Sh.hdr = (List.range n).flatMap fun i => Ty.cells tState (x i) := by
      unfold shL
      rw [List.flatMap_map]
      refine congrArg (fun f => (List.range n).flatMap f) (funext fun i => ?_)
      unfold Sh.hdr
      rw [hlen]
      rfl
    rw [e]
    exact hs
  · obtain ⟨i, hi, rfl⟩ := List.mem_map.1 hy
    obtain ⟨cl, _, c2, _, _, _, c3, c4, _, _, hr, _⟩ := h.elem (List.mem_range.1 hi)
    have h1 := hr.sl (e := tArc) (fun d => rfl)
    have h2 := hr.2.1
    have hb2 : (show SlH from (x i).2.1.1).n * 24 ≤ reachBytes := h2.2.2.1
    refine ⟨?_, by rw [hlen]; exact h2.1, by rw [hlen]; unfold reachBytes at hb2; omega⟩
    rw [hlen]
    have e := arcs_cells (show SlH from (x i).2.1.1).n (x i).2.1.2
    show Sl _ _ 3 _ _ (arcsC ((List.range _).map _))
    rw [e]
    exact h1
end Go.Proofs.YtebdffabfimmkaaDoor
