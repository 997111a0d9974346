/- The walk of DfaMeets. -/
import Derived.Test.YtebdffabfimmkaaDoorHDfaTight45
import Derived.Test.YtebdffabfimmkaaDoorHDfaTight27
import Derived.Test.YtebdffabfimmkaaDoorHDfaTight44
import Derived.Test.YtebdffabfimmkaaDoorHDfaTight31
import Derived.Test.YtebdffabfimmkaaDoorHDfaTight32
import Derived.Test.YtebdffabfimmkaaDoorHDfaTight39
namespace Go.Proofs.YtebdffabfimmkaaDoor
open Go.RowKit Go.Maps

set_option maxRecDepth 100000 in
set_option maxHeartbeats 8000000 in
theorem few_any (w : World) (z : Int) : Calls Tryd.prog 20 #[.int .i64 z] w fun e w' => e = .returned (.bool (decide (z ≤ 30))) ∧ Below w.heap.size w w' := by
  go_enter Tryd.func20, Tryd.ntmps20
  go_wp2_with fail
  go_ret
  exact ⟨rfl, brefl w⟩
/-- Owned states as an argument. -/
theorem OwnSts.use {W : World} {base : Nat} {v : Value} {hs : List Sh} (h : OwnSts W base v hs) (hl : hs.length ≤ 20000) (hg : Good (hs.map (·.d))) : ∃ A c, v = .slice A hs.length c ∧ StsIn W W.heap.size A hs.length c hs := by
  obtain ⟨A, c, rfl, _⟩ := own_shape h.out
  refine ⟨A, c, rfl, h.sts rfl (by omega) fun x hx => ?_⟩
  have h1 := hg.asc x.d (List.mem_map_of_mem hx)
  have := asc_few h1
  omega
theorem checks (d : List St) : checkE d = 0 ∨ checkE d = 1 ∨ checkE d = 3 ∨ checkE d = 8 := by
  unfold checkE
  split
  · simp
  · split
    · simp
    · split <;> simp
set_option linter.unusedVariables false in
set_option maxRecDepth 100000 in
set_option maxHeartbeats 8000000 in
theorem meets_walk (w : World) (A : Option Addr) (n c : Nat) (H : List Sh) (h : StsIn w w.heap.size A n c H) (A' : Option Addr) (n' c' : Nat) (H' : List Sh) (h' : StsIn w w.heap.size A' n' c' H') (At : Option Addr) (m ct : Nat) (y : Nat → ByteArray) (hy : TextsIn w At m ct y) (ht : Tab w) :
    Calls Tryd.prog 7 #[.slice A n c, .slice A' n' c', .slice At m ct] w fun e w' => e = .returned (.bool true) ∧ Below w.heap.size w w' := by
  have HS := Lib.hid h
  have HS' := Lib.hid h'
  have HY := Lib.hid hy
  have HT := Lib.hid ht
  have hcm := h.cm
  have hcm' := h'.cm
  clear h h' hy ht
  go_enter Tryd.func7, Tryd.ntmps7
  go_wp2_with fail
  refine (awake_any _ HT.out).mono ?_
  rintro e w1 ⟨rfl, hb1⟩
  have HB1 := Lib.hid hb1
  clear hb1
  go_wp2_with fail
  refine (few_any w1 (n : Int)).mono ?_
  rintro e w2 ⟨rfl, hb2⟩
  have HB2 := Lib.hid (bcall HB1.out hb2)
  clear hb2 HB1
  by_cases hn : (n : Int) ≤ 30
  · rw [decide_eq_true hn]
    go_wp2_with fail
    refine (few_any w2 (n' : Int)).mono ?_
    rintro e w3 ⟨rfl, hb3⟩
    have HB3 := Lib.hid (bcall HB2.out hb3)
    clear hb3 HB2
    by_cases hn' : (n' : Int) ≤ 30
    · rw [decide_eq_true hn']
      go_wp2_with fail
      refine (dcheck_any w3 w.heap.size HB3.out.size A n c H (HS.out.keep HB3.out (Nat.le_refl _))).mono ?_
      rintro e w4 ⟨rfl, hb4⟩
      have HB4 := Lib.hid (bcall HB3.out hb4)
      clear hb4 HB3
      obtain ⟨ck, hck⟩ : ∃ k, checkE (H.map (·.d)) = k := ⟨_, rfl⟩
      have HCK := Lib.hid hck
      have HCV := Lib.hid (checks (H.map (·.d)))
      rw [hck] at HCV ⊢
      clear hck
      by_cases hc : ck = 0
      · subst hc
        go_wp2_with fail
        refine (dcheck_any w4 w.heap.size HB4.out.size A' n' c' H' (HS'.out.keep HB4.out (Nat.le_refl _))).mono ?_
        rintro e w5 ⟨rfl, hb5⟩
        have HB5 := Lib.hid (bcall HB4.out hb5)
        clear hb5 HB4
        obtain ⟨ck', hck'⟩ : ∃ k, checkE (H'.map (·.d)) = k := ⟨_, rfl⟩
        have HCK' := Lib.hid hck'
        rw [hck']
        clear hck' HCV
        by_cases hc' : ck' = 0
        · subst hc'
          have HG := Lib.hid ((good_iff _).1 HCK.out)
          have HG' := Lib.hid ((good_iff _).1 HCK'.out)
          clear HCK HCK'
          go_wp2_with fail
          -- M{
          have hda : (H.map (·.d)).length = n := by rw [List.length_map]; exact HS.out.len
          have hda' : (H'.map (·.d)).length = n' := by rw [List.length_map]; exact HS'.out.len
          have hfew : n * n' ≤ 900 := Nat.mul_le_mul (show n ≤ 30 by omega) (show n' ≤ 30 by omega)
          have hfew2 : n * n ≤ 900 := Nat.mul_le_mul (show n ≤ 30 by omega) (show n ≤ 30 by omega)
          have HPF := Lib.hid (pair_few HG.out HG'.out)
          have HPF2 := Lib.hid (pair_few HG.out HG.out)
          rw [hda, hda'] at HPF
          rw [hda] at HPF2
          have HFW := Lib.hid (And.intro hfew hfew2)
          have HDA := Lib.hid hda
          clear hda hda' hfew hfew2 hn hn'
          refine (both_any w5 w.heap.size HB5.out.size A n c H (HS.out.keep HB5.out (Nat.le_refl _)) A' n' c' H' (HS'.out.keep HB5.out (Nat.le_refl _)) HG.out HG'.out (by have := HFW.out; omega) 20000 (HT.out.below HB5.out)).mono ?_
          rintro e w6 (⟨⟨f, hf⟩, _⟩ | ⟨_, v6, X, dd, rfl, hown6, hl6, hq6, hle6, hd6, hb6⟩)
          · exfalso
            have h1 := HPF.out f
            have h2 := HFW.out
            omega
          have hxl : X.length ≤ 20000 := by omega
          have hxl2 : (X.map (·.d)).length ≤ 20000 := by rw [List.length_map]; exact hxl
          have HXG := Lib.hid (hl6.good hxl2)
          have HXT := Lib.hid (fun t => both_takes HG.out HG'.out hl6 hq6 hxl2 t)
          obtain ⟨Ax, cx, rfl, hx6⟩ := hown6.use hxl HXG.out
          obtain ⟨nx, hnx⟩ : ∃ k, X.length = k := ⟨_, rfl⟩
          rw [hnx] at hx6 hxl ⊢
          have HX6 := Lib.hid hx6
          have HB6 := Lib.hid (bcall HB5.out hb6)
          clear hown6 hl6 hq6 hle6 hd6 hxl2 hx6 hb6 hnx HB5
          go_wp2_with fail
          refine (oleast_any w6 w.heap.size HB6.out.size A n c H (HS.out.keep HB6.out (Nat.le_refl _)) HG.out (HT.out.below HB6.out)).mono ?_
          rintro e w7 ⟨v7, L, rfl, hown7, hl7, hle7, hb7⟩
          have hll : L.length ≤ 20000 := by have := HG.out.few; rw [HDA.out] at this; omega
          have hll2 : (L.map (·.d)).length ≤ 20000 := by rw [List.length_map]; exact hll
          have HLG := Lib.hid (hl7.good hll2)
          have HLT := Lib.hid (fun t => least_takes HG.out hl7 hll2 t)
          have HLL := Lib.hid hl7
          obtain ⟨Al, cl, rfl, hL7⟩ := hown7.use hll HLG.out
          obtain ⟨nl, hnl⟩ : ∃ k, L.length = k := ⟨_, rfl⟩
          rw [hnl] at hL7 hll hle7 ⊢
          have HL7 := Lib.hid hL7
          have HX7 := Lib.hid (HX6.out.keep hb7 hb7.size)
          have HB7 := Lib.hid (bcall HB6.out hb7)
          clear hown7 hl7 hll2 hL7 hb7 hnl HB6 HX6
          go_wp2_with fail
          refine (oleast_any w7 w7.heap.size (Nat.le_refl _) Al nl cl L HL7.out HLG.out (HT.out.below HB7.out)).mono ?_
          rintro e w8 ⟨v8, M, rfl, hown8, hl8, hle8, hb8⟩
          have HLM := Lib.hid (least_again HLL.out hl8)
          have hml : M.length ≤ 20000 := by omega
          obtain ⟨Am, cm, rfl, hM8⟩ := hown8.use hml (by rw [← HLM.out]; exact HLG.out)
          obtain ⟨nm, hnm⟩ : ∃ k, M.length = k := ⟨_, rfl⟩
          rw [hnm] at hM8 ⊢
          have HM8 := Lib.hid hM8
          have HX8 := Lib.hid (HX7.out.keep hb8 hb8.size)
          have HL8 := Lib.hid (HL7.out.keep hb8 hb8.size)
          have HB8 := Lib.hid (bcall HB7.out hb8)
          clear hown8 hl8 hM8 hb8 hnm HB7 HX7 HL7 hml hle8
          go_wp2_with fail
          refine (both_any w8 w.heap.size HB8.out.size A n c H (HS.out.keep HB8.out (Nat.le_refl _)) A n c H (HS.out.keep HB8.out (Nat.le_refl _)) HG.out HG.out (by have := HFW.out; omega) 20000 (HT.out.below HB8.out)).mono ?_
          rintro e w9 (⟨⟨f, hf⟩, _⟩ | ⟨_, v9, S, dd9, rfl, hown9, hl9, hq9, hle9, hd9, hb9⟩)
          · exfalso
            have h1 := HPF2.out f
            have h2 := HFW.out
            omega
          have HSL := Lib.hid (both_self hl9 hq9 HLL.out)
          have hsl : S.length ≤ 20000 := by omega
          obtain ⟨As, cs, rfl, hS9⟩ := hown9.use hsl (by rw [HSL.out]; exact HLG.out)
          obtain ⟨ns, hns⟩ : ∃ k, S.length = k := ⟨_, rfl⟩
          rw [hns] at hS9 ⊢
          have HS9 := Lib.hid hS9
          have HX9 := Lib.hid (HX8.out.keep hb9 hb9.size)
          have HL9 := Lib.hid (HL8.out.keep hb9 hb9.size)
          have HM9 := Lib.hid (HM8.out.keep hb9 hb9.size)
          have HB9 := Lib.hid (bcall HB8.out hb9)
          have q9 : decide ((nl : Int) > (n : Int)) = false := decide_eq_false (by omega)
          have q91 : decide (nl > n) = false := decide_eq_false (by omega)
          clear hown9 hl9 hq9 hle9 hd9 hS9 hb9 hns HB8 HX8 HL8 HM8 hsl
          go_wp2_with fail
          refine (rsame_any w9 w9.heap.size (Nat.le_refl _) Al Am nl cl nm cm L M HL9.out HM9.out).mono ?_
          rintro e w10 ⟨rfl, hb10⟩
          rw [decide_eq_true HLM.out]
          have HX10 := Lib.hid (HX9.out.keep hb10 hb10.size)
          have HL10 := Lib.hid (HL9.out.keep hb10 hb10.size)
          have HS10 := Lib.hid (HS9.out.keep hb10 hb10.size)
          have HB10 := Lib.hid (bcall HB9.out hb10)
          clear hb10 HB9 HX9 HL9 HM9 HS9
          go_wp2_with fail
          refine (rsame_any w10 w10.heap.size (Nat.le_refl _) As Al ns cs nl cl S L HS10.out HL10.out).mono ?_
          rintro e w11 ⟨rfl, hb11⟩
          rw [decide_eq_true HSL.out]
          have HX11 := Lib.hid (HX10.out.keep hb11 hb11.size)
          have HL11 := Lib.hid (HL10.out.keep hb11 hb11.size)
          have HB11 := Lib.hid (bcall HB10.out hb11)
          clear hb11 HB10 HX10 HL10 HS10
          go_wp2_with fail
          refine (dcheck_any w11 w11.heap.size (Nat.le_refl _) Ax nx cx X HX11.out).mono ?_
          rintro e w12 ⟨rfl, hb12⟩
          rw [(good_iff _).2 HXG.out]
          have HX12 := Lib.hid (HX11.out.keep hb12 hb12.size)
          have HL12 := Lib.hid (HL11.out.keep hb12 hb12.size)
          have HB12 := Lib.hid (bcall HB11.out hb12)
          clear hb12 HB11 HX11 HL11
          go_wp2_with fail
          refine (dcheck_any w12 w12.heap.size (Nat.le_refl _) Al nl cl L HL12.out).mono ?_
          rintro e w13 ⟨rfl, hb13⟩
          rw [(good_iff _).2 HLG.out]
          have HX13 := Lib.hid (HX12.out.keep hb13 hb13.size)
          have HL13 := Lib.hid (HL12.out.keep hb13 hb13.size)
          have HB13 := Lib.hid (bcall HB12.out hb13)
          clear hb13 HB12 HX12 HL12
          go_wp2_with fail
          refine meets_loop w w13 HB13.out A A' Ax Al n c n' c' nx cx nl cl H H' X L (HS.out.keep HB13.out HB13.out.size) (HS'.out.keep HB13.out HB13.out.size) HX13 HL13 At m ct y HY HXT HLT _ _ _ _ _ _ _ _ _ _ _ _ _ _ _ _ _ _ _ _ _ _ _ _ _ _ _ _ _ _ _ _ _ _ _ _ _ _ _ _ _ _ _ _ _ _ _ _ _ _ _ _ _ _ _ _ _ _ _ _ _ _ _ _ _ _ _ _ _ _ _ _ _ _ _ _ _ _ _ _ _ _ _ _ _ _ _ _ _ _ _ _ _ _ _ _ _ _ _ _ _ _ _ _ _ _ _ _ _ _ _ _ _ _ _ _ _ _ _ _ _ _ _ _ _ _ _ _ _ _ _ _ _ _ _ _ _ _ _ _ _ _ _ _ _ _ (fun c a a' w hd h => by cases a; cases a'; cases hd; exact h) ?_
          intro i W u6 u16 u17 u108 u109 u110 u111 u112 u113 u114 u115 u116 u117 u118 u119 u120 u121 u122 u123 u124 u125 u126 u127 u128 u129 u130 u131 u132 u133 u134 u135 u136 u137 u138 u139 u140 u141 u142 u143 u144 u145 u146 u147 u148 u149 u150 HBW
          have HBZ := Lib.hid (bcall HB13.out HBW.out)
          clear HBW HB13
          go_wp2_with fail
          go_ret
          exact ⟨rfl, HBZ.out⟩
          -- M}
        · have q5 : (ck' == 0) = false := by simpa using hc'
          have q6 : (ck' != 0) = true := by simpa using hc'
          clear hc'
          clear HS HS' HY
          go_wp2_with fail
          refine (awake_any _ (HT.out.below HB5.out)).mono ?_
          rintro e w9 ⟨rfl, hb9⟩
          have HB9 := Lib.hid (bcall HB5.out hb9)
          clear hb9
          go_wp2_with fail
          go_ret
          exact ⟨rfl, HB9.out⟩
      · have q5 : (ck == 0) = false := by simpa using hc
        have q6 : (ck != 0) = true := by simpa using hc
        clear hc HCV
        clear HS HS' HY
        go_wp2_with fail
        refine (awake_any _ (HT.out.below HB4.out)).mono ?_
        rintro e w9 ⟨rfl, hb9⟩
        have HB9 := Lib.hid (bcall HB4.out hb9)
        clear hb9
        go_wp2_with fail
        go_ret
        exact ⟨rfl, HB9.out⟩
    · rw [decide_eq_false hn']
      clear HS HS' HY
      go_wp2_with fail
      refine (awake_any _ (HT.out.below HB3.out)).mono ?_
      rintro e w9 ⟨rfl, hb9⟩
      have HB9 := Lib.hid (bcall HB3.out hb9)
      clear hb9
      go_wp2_with fail
      go_ret
      exact ⟨rfl, HB9.out⟩
  · rw [decide_eq_false hn]
    clear HS HS' HY
    go_wp2_with fail
    refine (awake_any _ (HT.out.below HB2.out)).mono ?_
    rintro e w9 ⟨rfl, hb9⟩
    have HB9 := Lib.hid (bcall HB2.out hb9)
    clear hb9
    go_wp2_with fail
    go_ret
    exact ⟨rfl, HB9.out⟩
theorem meets_all (w : World) (A : Option Addr) (n c : Nat) (x : Nat → tState.den) (h : StsIn w w.heap.size A n c (shL n x)) (A' : Option Addr) (n' c' : Nat) (x' : Nat → tState.den) (h' : StsIn w w.heap.size A' n' c' (shL n' x')) (At : Option Addr) (m ct : Nat) (y : Nat → Ty.str.den) (hy : TextsIn w At m ct y) (ht : Tab w) :
    Calls Tryd.prog 7 #[.slice A n c, .slice A' n' c', .slice At m ct] w fun e w' => e = .returned (.bool true) ∧ Below w.heap.size w w' := meets_walk w A n c _ h A' n' c' _ h' At m ct y hy ht
end Go.Proofs.YtebdffabfimmkaaDoor
/- dfa.Both and the reference's Both, in every case: what both say. -/
namespace Go.Proofs.YtebdffabfimmkaaDoor
open Go.RowKit Go.Maps

set_option maxRecDepth 100000 in
set_option maxHeartbeats 8000000 in
theorem both_bad (w : World) (B : Nat) (hB : B ≤ w.heap.size) (A : Option Addr) (n c : Nat) (H : List Sh) (h : StsIn w B A n c H) (A' : Option Addr) (n' c' : Nat) (H' : List Sh) (h' : StsIn w B A' n' c' H') (hg : checkE (H.map (·.d)) ≠ 0 ∨ checkE (H'.map (·.d)) ≠ 0) (most : Int) :
    Calls Tryd.prog 21 #[.slice A n c, .slice A' n' c', .int .i64 most] w fun e w' => e = .returned (.tuple #[.slice none 0 0, .int .i64 3]) ∧ Below w.heap.size w w' := by
  have HS := Lib.hid h
  have HS' := Lib.hid h'
  obtain ⟨ck, hck⟩ : ∃ k, checkE (H.map (·.d)) = k := ⟨_, rfl⟩
  obtain ⟨ck', hck'⟩ : ∃ k, checkE (H'.map (·.d)) = k := ⟨_, rfl⟩
  have HC := Lib.hid hck
  have HC' := Lib.hid hck'
  rw [hck, hck'] at hg
  have HOR := Lib.hid hg
  clear h h' hck hck' hg
  by_cases h0 : ck = 0
  · subst h0
    have hne : ck' ≠ 0 := HOR.out.elim (fun h => absurd rfl h) id
    have q : (ck' == 0) = false := by simpa using hne
    have q1 : (ck' != 0) = true := by simpa using hne
    clear hne HOR
    go_enter Tryd.func21, Tryd.ntmps21
    go_wp2_with fail
    refine (dcheck_any w B hB A n c H HS.out).mono ?_
    rintro e w1 ⟨rfl, hb1⟩
    rw [HC.out]
    have HB1 := Lib.hid hb1
    clear hb1
    go_wp2_with fail
    refine (dcheck_any w1 B (Nat.le_trans hB HB1.out.size) A' n' c' H' (HS'.out.keep (HB1.out.mono hB) (Nat.le_refl _))).mono ?_
    rintro e w2 ⟨rfl, hb2⟩
    rw [HC'.out]
    have HB2 := Lib.hid (bcall HB1.out hb2)
    clear hb2
    go_wp2_with fail
    go_ret2
    exact ⟨rfl, HB2.out⟩
  · have q : (ck == 0) = false := by simpa using h0
    have q1 : (ck != 0) = true := by simpa using h0
    clear h0 HOR
    go_enter Tryd.func21, Tryd.ntmps21
    go_wp2_with fail
    refine (dcheck_any w B hB A n c H HS.out).mono ?_
    rintro e w1 ⟨rfl, hb1⟩
    rw [HC.out]
    have HB1 := Lib.hid hb1
    clear hb1
    go_wp2_with fail
    go_ret2
    exact ⟨rfl, HB1.out⟩
/-- What Both of two lists is: the number of the refusal, and the states. -/
def BothIs (a e : List St) (most code : Int) (xs : List St) : Prop :=
  ((checkE a ≠ 0 ∨ checkE e ≠ 0) ∧ code = 3 ∧ xs = []) ∨
  (checkE a = 0 ∧ checkE e = 0 ∧ (∃ f, most < (((pairW a e).run f 0 [[0, 0]]).length : Nat)) ∧ code = 8 ∧ xs = []) ∨
  (checkE a = 0 ∧ checkE e = 0 ∧ (∀ f, (((pairW a e).run f 0 [[0, 0]]).length : Nat) ≤ most) ∧ code = 0 ∧ ∃ d, LeastIs (auOf d) 0 xs ∧ Leq (auOf d) 0 ⟨finP a e, stepP a e⟩ [0, 0])
theorem BothIs.one {a e : List St} {most c1 c2 : Int} {x1 x2 : List St} (h1 : BothIs a e most c1 x1) (h2 : BothIs a e most c2 x2) : c1 = c2 ∧ x1 = x2 := by
  rcases h1 with ⟨b1, r1, s1⟩ | ⟨g1, g1', m1, r1, s1⟩ | ⟨g1, g1', m1, r1, d1, l1, q1⟩ <;> rcases h2 with ⟨b2, r2, s2⟩ | ⟨g2, g2', m2, r2, s2⟩ | ⟨g2, g2', m2, r2, d2, l2, q2⟩
  · exact ⟨by rw [r1, r2], by rw [s1, s2]⟩
  · exact absurd b1 (by simp [g2, g2'])
  · exact absurd b1 (by simp [g2, g2'])
  · exact absurd b2 (by simp [g1, g1'])
  · exact ⟨by rw [r1, r2], by rw [s1, s2]⟩
  · obtain ⟨f, hf⟩ := m1
    have := m2 f
    omega
  · exact absurd b2 (by simp [g1, g1'])
  · obtain ⟨f, hf⟩ := m2
    have := m1 f
    omega
  · exact ⟨by rw [r1, r2], l1.eq l2 (q1.trans q2.symm)⟩
theorem sts_nil (w : World) : StsIn w w.heap.size none 0 0 [] := ⟨rfl, Sl.empty, Nat.le_refl _, Nat.zero_le _, fun _ hx => absurd hx List.not_mem_nil⟩
/-- The post of both: states in memory that say it. -/
def BothPost (w : World) (a e : List St) (most : Int) : Ending → World → Prop := fun r w' => ∃ A n c X code, r = .returned (.tuple #[.slice A n c, .int .i64 code]) ∧ StsIn w' w'.heap.size A n c X ∧ BothIs a e most code (X.map (·.d)) ∧ Below w.heap.size w w'
theorem both_post {w w' : World} {a e : List St} {most : Int} {r : Ending} (ha : checkE a = 0) (he : checkE e = 0)
    (h : ((∃ f, most < (((pairW a e).run f 0 [[0, 0]]).length : Nat)) ∧ r = .returned (.tuple #[.slice none 0 0, .int .i64 8]) ∧ Below w.heap.size w w') ∨
      ((∀ f, (((pairW a e).run f 0 [[0, 0]]).length : Nat) ≤ most) ∧ ∃ v hs d, r = .returned (.tuple #[v, .int .i64 0]) ∧ OwnSts w' w.heap.size v hs ∧ LeastIs (auOf d) 0 (hs.map (·.d)) ∧ Leq (auOf d) 0 ⟨finP a e, stepP a e⟩ [0, 0] ∧ hs.length ≤ d.length ∧ d.length ≤ 20000 ∧ Below w.heap.size w w')) : BothPost w a e most r w' := by
  rcases h with ⟨hf, hr, hb⟩ | ⟨hf, v, hs, d, hr, ho, hl, hq, hle, hd, hb⟩
  · exact ⟨none, 0, 0, [], 8, hr, sts_nil w', .inr (.inl ⟨ha, he, hf, rfl, rfl⟩), hb⟩
  · have hle2 : hs.length ≤ 20000 := by omega
    obtain ⟨A, c, rfl, hs2⟩ := ho.use hle2 (hl.good (by rw [List.length_map]; exact hle2))
    exact ⟨A, hs.length, c, hs, 0, hr, hs2, .inr (.inr ⟨ha, he, hf, rfl, d, hl, hq⟩), hb⟩
section
variable (w : World) (B : Nat) (hB : B ≤ w.heap.size) (A : Option Addr) (n c : Nat) (H : List Sh) (h : StsIn w B A n c H) (A' : Option Addr) (n' c' : Nat) (H' : List Sh) (h' : StsIn w B A' n' c' H') (hfew : n * n' ≤ 20000) (most : Int)
include hB h h' hfew
theorem bothE_any (ht : Tab w) : Calls Tryd.prog 21 #[.slice A n c, .slice A' n' c', .int .i64 most] w (BothPost w (H.map (·.d)) (H'.map (·.d)) most) := by
  by_cases h1 : checkE (H.map (·.d)) = 0
  · by_cases h2 : checkE (H'.map (·.d)) = 0
    · exact (both_any w B hB A n c H h A' n' c' H' h' ((good_iff _).1 h1) ((good_iff _).1 h2) hfew most ht).mono fun e w' hp => both_post h1 h2 hp
    · exact (both_bad w B hB A n c H h A' n' c' H' h' (.inr h2) most).mono fun e w' hp => ⟨none, 0, 0, [], 3, hp.1, sts_nil w', .inl ⟨.inr h2, rfl, rfl⟩, hp.2⟩
  · exact (both_bad w B hB A n c H h A' n' c' H' h' (.inl h1) most).mono fun e w' hp => ⟨none, 0, 0, [], 3, hp.1, sts_nil w', .inl ⟨.inl h1, rfl, rfl⟩, hp.2⟩
theorem refbothE_any : Calls Tryd.prog 22 #[.slice A n c, .slice A' n' c', .int .i64 most] w (BothPost w (H.map (·.d)) (H'.map (·.d)) most) := by
  by_cases h1 : checkE (H.map (·.d)) = 0
  · by_cases h2 : checkE (H'.map (·.d)) = 0
    · exact (refboth_any w B hB A n c H h A' n' c' H' h' ((good_iff _).1 h1) ((good_iff _).1 h2) hfew most).mono fun e w' hp => both_post h1 h2 hp
    · exact (refboth_bad w B hB A n c H h A' n' c' H' h' (.inr h2) most).mono fun e w' hp => ⟨none, 0, 0, [], 3, hp.1, sts_nil w', .inl ⟨.inr h2, rfl, rfl⟩, hp.2⟩
  · exact (refboth_bad w B hB A n c H h A' n' c' H' h' (.inl h1) most).mono fun e w' hp => ⟨none, 0, 0, [], 3, hp.1, sts_nil w', .inl ⟨.inl h1, rfl, rfl⟩, hp.2⟩
end
/-- dfa.Least in every case. -/
def LeastPost (w : World) (a : List St) : Ending → World → Prop := fun r w' => ∃ A n c X code, r = .returned (.tuple #[.slice A n c, .int .i64 code]) ∧ StsIn w' w'.heap.size A n c X ∧ ((checkE a = 0 ∧ code = 0 ∧ LeastIs (auOf a) 0 (X.map (·.d))) ∨ (checkE a ≠ 0 ∧ code = 3 ∧ n = 0)) ∧ Below w.heap.size w w'
theorem leastE_any (w : World) (B : Nat) (hB : B ≤ w.heap.size) (A : Option Addr) (n c : Nat) (H : List Sh) (h : StsIn w B A n c H) (ht : Tab w) : Calls Tryd.prog 23 #[.slice A n c] w (LeastPost w (H.map (·.d))) := by
  by_cases h1 : checkE (H.map (·.d)) = 0
  · have hg := (good_iff _).1 h1
    refine (oleast_any w B hB A n c H h hg ht).mono fun e w' hp => ?_
    obtain ⟨v, hs, hr, ho, hl, hle, hb⟩ := hp
    have hn : n ≤ 20000 := by have := hg.few; rw [List.length_map, h.len] at this; exact this
    have hle2 : hs.length ≤ 20000 := by omega
    obtain ⟨A, c, rfl, hs2⟩ := ho.use hle2 (hl.good (by rw [List.length_map]; exact hle2))
    exact ⟨A, hs.length, c, hs, 0, hr, hs2, .inl ⟨h1, rfl, hl⟩, hb⟩
  · exact (oleast_bad w B hB A n c H h h1).mono fun e w' hp => ⟨none, 0, 0, [], 3, hp.1, sts_nil w', .inr ⟨h1, rfl, rfl⟩, hp.2⟩
end Go.Proofs.YtebdffabfimmkaaDoor
/- dfa.Tight and the reference's Tight, in every case: what both say. -/
namespace Go.Proofs.YtebdffabfimmkaaDoor
open Go.RowKit Go.Maps

set_option maxRecDepth 100000 in
set_option maxHeartbeats 8000000 in
theorem tight_bad (w : World) (B : Nat) (hB : B ≤ w.heap.size) (A : Option Addr) (n c : Nat) (H : List Lsh) (h : LoIn w B A n c H) (hg : looseB (H.map (·.d)) = false) (most : Int) :
    Calls Tryd.prog 15 #[.slice A n c, .int .i64 most] w fun e w' => e = .returned (.tuple #[.slice none 0 0, .int .i64 3]) ∧ Below w.heap.size w w' := by
  have HS := Lib.hid h
  have HG := Lib.hid hg
  clear h hg
  go_enter Tryd.func15, Tryd.ntmps15
  go_wp2_with fail
  refine (loose_any w B hB A n c H HS.out).mono ?_
  rintro e w1 ⟨rfl, hb1⟩
  rw [HG.out]
  have HB1 := Lib.hid hb1
  clear hb1
  go_wp2_with fail
  go_ret2
  exact ⟨rfl, HB1.out⟩
/-- What Tight of a list is: the number of the refusal, and the states. -/
def TightIs (l : List Lst) (n : Nat) (most code : Int) (xs : List St) : Prop :=
  (looseB l = false ∧ code = 3 ∧ xs = []) ∨
  (looseB l = true ∧ (∃ f, most < (((subW l).run f 0 [setL n (Clo l fun x => x = 0)]).length : Nat)) ∧ code = 8 ∧ xs = []) ∨
  (looseB l = true ∧ (∀ f, (((subW l).run f 0 [setL n (Clo l fun x => x = 0)]).length : Nat) ≤ most) ∧ code = 0 ∧ ∃ d, LeastIs (auOf d) 0 xs ∧ Leq (auOf d) 0 ⟨finS l, stepS l⟩ (setL n (Clo l fun x => x = 0)))
theorem TightIs.one {l : List Lst} {n : Nat} {most c1 c2 : Int} {x1 x2 : List St} (h1 : TightIs l n most c1 x1) (h2 : TightIs l n most c2 x2) : c1 = c2 ∧ x1 = x2 := by
  rcases h1 with ⟨b1, r1, s1⟩ | ⟨g1, m1, r1, s1⟩ | ⟨g1, m1, r1, d1, l1, q1⟩ <;> rcases h2 with ⟨b2, r2, s2⟩ | ⟨g2, m2, r2, s2⟩ | ⟨g2, m2, r2, d2, l2, q2⟩
  · exact ⟨by rw [r1, r2], by rw [s1, s2]⟩
  · rw [b1] at g2; cases g2
  · rw [b1] at g2; cases g2
  · rw [b2] at g1; cases g1
  · exact ⟨by rw [r1, r2], by rw [s1, s2]⟩
  · obtain ⟨f, hf⟩ := m1
    have := m2 f
    omega
  · rw [b2] at g1; cases g1
  · obtain ⟨f, hf⟩ := m2
    have := m1 f
    omega
  · exact ⟨by rw [r1, r2], l1.eq l2 (q1.trans q2.symm)⟩
def TightPost (w : World) (l : List Lst) (n : Nat) (most : Int) : Ending → World → Prop := fun r w' => ∃ A m c X code, r = .returned (.tuple #[.slice A m c, .int .i64 code]) ∧ OwnSts w' w.heap.size (.slice A m c) X ∧ X.length = m ∧ m ≤ 20000 ∧ (∀ x ∈ X, x.d.2.length ≤ 256) ∧ TightIs l n most code (X.map (·.d)) ∧ Below w.heap.size w w'
theorem owns_nil (w : World) (b : Nat) : OwnSts w b (.slice none 0 0) [] := ⟨⟨rfl, .inl ⟨rfl, rfl⟩⟩, GFam.nil _ _ _ _⟩
theorem tight_post {w w' : World} {l : List Lst} {n : Nat} {most : Int} {r : Ending} (ha : looseB l = true)
    (h : ((∃ f, most < (((subW l).run f 0 [setL n (Clo l fun x => x = 0)]).length : Nat)) ∧ r = .returned (.tuple #[.slice none 0 0, .int .i64 8]) ∧ Below w.heap.size w w') ∨
      ((∀ f, (((subW l).run f 0 [setL n (Clo l fun x => x = 0)]).length : Nat) ≤ most) ∧ ∃ v hs d, r = .returned (.tuple #[v, .int .i64 0]) ∧ OwnSts w' w.heap.size v hs ∧ LeastIs (auOf d) 0 (hs.map (·.d)) ∧ Leq (auOf d) 0 ⟨finS l, stepS l⟩ (setL n (Clo l fun x => x = 0)) ∧ hs.length ≤ d.length ∧ d.length ≤ 20000 ∧ Below w.heap.size w w')) : TightPost w l n most r w' := by
  rcases h with ⟨hf, hr, hb⟩ | ⟨hf, v, hs, d, hr, ho, hl, hq, hle, hd, hb⟩
  · exact ⟨none, 0, 0, [], 8, hr, owns_nil _ _, rfl, by omega, fun _ hx => absurd hx List.not_mem_nil, .inr (.inl ⟨ha, hf, rfl, rfl⟩), hb⟩
  · have hle2 : hs.length ≤ 20000 := by omega
    have hg := hl.good (by rw [List.length_map]; exact hle2)
    obtain ⟨A, c, rfl, _⟩ := own_shape ho.out
    exact ⟨A, hs.length, c, hs, 0, hr, ho, rfl, hle2, fun x hx => asc_few (hg.asc x.d (List.mem_map_of_mem hx)), .inr (.inr ⟨ha, hf, rfl, d, hl, hq⟩), hb⟩
section
variable (w : World) (B : Nat) (hB : B ≤ w.heap.size) (A : Option Addr) (n c : Nat) (H : List Lsh) (h : LoIn w B A n c H) (hn : n ≤ 20000) (most : Int) (hm : most ≤ 20000)
include hB h hm
include hn in
theorem tightE_any (ht : Tab w) : Calls Tryd.prog 15 #[.slice A n c, .int .i64 most] w (TightPost w (H.map (·.d)) n most) := by
  cases h1 : looseB (H.map (·.d))
  · exact (tight_bad w B hB A n c H h h1 most).mono fun e w' hp => ⟨none, 0, 0, [], 3, hp.1, owns_nil _ _, rfl, by omega, fun _ hx => absurd hx List.not_mem_nil, .inl ⟨h1, rfl, rfl⟩, hp.2⟩
  · exact (tight_any w B hB A n c H h hn ((loose_iff _).1 h1) most hm ht).mono fun e w' hp => tight_post h1 hp
theorem reftightE_any : Calls Tryd.prog 16 #[.slice A n c, .int .i64 most] w (TightPost w (H.map (·.d)) n most) := by
  cases h1 : looseB (H.map (·.d))
  · exact (reftight_bad w B hB A n c H h h1 most).mono fun e w' hp => ⟨none, 0, 0, [], 3, hp.1, owns_nil _ _, rfl, by omega, fun _ hx => absurd hx List.not_mem_nil, .inl ⟨h1, rfl, rfl⟩, hp.2⟩
  · exact (reftight_any w B hB A n c H h ((loose_iff _).1 h1) most hm).mono fun e w' hp => tight_post h1 hp
end
end Go.Proofs.YtebdffabfimmkaaDoor
