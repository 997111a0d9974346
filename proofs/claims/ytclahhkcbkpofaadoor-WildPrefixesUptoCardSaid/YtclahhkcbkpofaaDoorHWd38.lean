/- The walk of SpansLead. -/
import Derived.Test.YtclahhkcbkpofaaDoorHWd22
import Derived.Test.YtclahhkcbkpofaaDoorHWd23
import Derived.Test.YtclahhkcbkpofaaDoorHWd29
import Derived.Test.YtclahhkcbkpofaaDoorHWd4
import Derived.Test.YtclahhkcbkpofaaDoorHWd30
import Derived.Test.YtclahhkcbkpofaaDoorHWd37
import Derived.Test.YtclahhkcbkpofaaDoorRows
import Derived.Test.YtclahhkcbkpofaaDoorHWd20
namespace Go.Proofs.YtclahhkcbkpofaaDoor
open Go.RowKit Go.Maps
theorem pair_in {w : World} {x : Lsh} (h : OneIn w w.heap.size x) (f : Bool) :
    LoIn (w.alloc (.cells #[.bool x.d.fin, .slice x.A x.d.arcs.length x.c, .slice x.F x.d.free.length x.e, .bool f, .slice none 0 0, .slice none 0 0] 25)) (w.heap.size + 1) (some ⟨w.heap.size, 0, none⟩) 2 2 [x, ⟨⟨f, [], []⟩, none, 0, none, 0⟩] := by
  have hk := h.keep (B' := w.heap.size + 1) (bnew (brefl w) (.cells #[.bool x.d.fin, .slice x.A x.d.arcs.length x.c, .slice x.F x.d.free.length x.e, .bool f, .slice none 0 0, .slice none 0 0] 25)) (Nat.le_succ _)
  have ho := own_new w #[.bool x.d.fin, .slice x.A x.d.arcs.length x.c, .slice x.F x.d.free.length x.e, .bool f, .slice none 0 0, .slice none 0 0] 25 3 2 rfl (by unfold maxLen; omega) (nb := w.heap.size) rfl (base := 0) (Nat.zero_le _)
  refine ⟨rfl, (Sl.of_own ho).more (by simp), Nat.le_refl _, by omega, fun y hy => ?_, fun y hy => ?_⟩
  · simp only [List.mem_cons, List.not_mem_nil, or_false] at hy
    rcases hy with rfl | rfl
    · exact ⟨hk.ar.1, hk.ar.2.1, by have := hk.ar.2.2; omega⟩
    · exact ⟨Sl.empty, Nat.le_refl _, Nat.zero_le _⟩
  · simp only [List.mem_cons, List.not_mem_nil, or_false] at hy
    rcases hy with rfl | rfl
    · exact ⟨hk.fr.1, hk.fr.2.1, by have := hk.fr.2.2.1; omega, hk.fr.2.2.2⟩
    · exact ⟨Sl.empty, Nat.le_refl _, Nat.zero_le _, fun _ => rfl⟩
theorem use_sts {W : World} {base : Nat} {v : Value} {hs : List Sh} (h : OwnSts W base v hs) (hl : hs.length ≤ 20000) (hg : Good (hs.map (·.d))) : ∃ A c, v = .slice A hs.length c ∧ StsIn W W.heap.size A hs.length c hs := by
  obtain ⟨A, c, rfl, _⟩ := own_shape h.out
  refine ⟨A, c, rfl, h.sts rfl (by omega) fun x hx => ?_⟩
  have h1 := hg.asc x.d (List.mem_map_of_mem hx)
  have := asc_few h1
  omega
set_option linter.unusedVariables false in
set_option linter.unusedSimpArgs false in
set_option maxRecDepth 100000 in
set_option maxHeartbeats 8000000 in
theorem lead_walk (w : World) (lo hi c : Int) (x : Lsh) (h : OneIn w w.heap.size x) (ht : Tab w) :
    Calls Tryd.prog 3 #[.int .i64 lo, .int .i64 hi, .int .i64 c, .agg #[.bool x.d.fin, .slice x.A x.d.arcs.length x.c, .slice x.F x.d.free.length x.e]] w fun e w' => e = .returned (.bool true) ∧ Below w.heap.size w w' := by
  obtain ⟨D, hD⟩ : ∃ D, x.d = D := ⟨_, rfl⟩
  obtain ⟨f, hf⟩ : ∃ f, x.d.fin = f := ⟨_, rfl⟩
  obtain ⟨na, hna⟩ : ∃ n, x.d.arcs.length = n := ⟨_, rfl⟩
  obtain ⟨nf, hnf⟩ : ∃ n, x.d.free.length = n := ⟨_, rfl⟩
  obtain ⟨A, hA⟩ : ∃ n, x.A = n := ⟨_, rfl⟩
  obtain ⟨F, hF⟩ : ∃ n, x.F = n := ⟨_, rfl⟩
  obtain ⟨ca, hca⟩ : ∃ n, x.c = n := ⟨_, rfl⟩
  obtain ⟨cf, hcf⟩ : ∃ n, x.e = n := ⟨_, rfl⟩
  have HPA : Hid (∀ (W : World) (f2 : Bool), OneIn W W.heap.size x → LoIn (W.alloc (.cells #[.bool f, .slice A na ca, .slice F nf cf, .bool f2, .slice none 0 0, .slice none 0 0] 25)) (W.heap.size + 1) (some ⟨W.heap.size, 0, none⟩) 2 2 [x, ⟨⟨f2, [], []⟩, none, 0, none, 0⟩]) := fun W f2 h => by
    have := pair_in h f2
    rw [hf, hna, hnf, hA, hF, hca, hcf] at this
    exact this
  have hn1 := h.ar.2
  have hn2 := h.fr.2
  rw [hna, hca] at hn1
  rw [hnf, hcf] at hn2
  have HXD : Hid (D.fin = f ∧ D.arcs.length = na) := ⟨by rw [← hD]; exact hf, by rw [← hD]; exact hna⟩
  rw [hf, hna, hnf, hA, hF, hca, hcf]
  obtain ⟨W0, hW0⟩ : ∃ W, W = w.alloc (.cells #[.bool f, .slice A na ca, .slice F nf cf] 25) := ⟨_, rfl⟩
  have HB0 : Hid (Below w.heap.size w W0) := by rw [hW0]; exact bnew (brefl w) _
  have HBOX : Hid (∀ W, Below W0.heap.size W0 W → W.cell? ⟨w.heap.size, 0, none⟩ = some (.bool f) ∧ W.cell? ⟨w.heap.size, 1, none⟩ = some (.slice A na ca) ∧ W.cell? ⟨w.heap.size, 2, none⟩ = some (.slice F nf cf)) := fun W hW => by
    have k : ∀ o, W.cell? ⟨w.heap.size, o, none⟩ = W0.cell? ⟨w.heap.size, o, none⟩ := fun o => hW.cell (p := ⟨w.heap.size, o, none⟩) (by rw [hW0]; simp)
    have ho := (own_new w #[.bool f, .slice A na ca, .slice F nf cf] 25 3 1 rfl (by unfold maxLen; omega) (nb := w.heap.size) rfl (base := 0) (Nat.zero_le _)).cells (g := w.heap.size) rfl
    have kk : ∀ q u, [Value.bool f, .slice A na ca, .slice F nf cf][q]? = some u → W.cell? ⟨w.heap.size, q, none⟩ = some u := fun q u hu => by
      have := ho q u hu
      rw [Addr.add_lit, Nat.zero_add] at this
      rw [k, hW0]
      exact this
    exact ⟨kk 0 _ rfl, kk 1 _ rfl, kk 2 _ rfl⟩
  have HS : Hid (OneIn W0 W0.heap.size x) := h.keep HB0.out HB0.out.size
  have HT := Lib.hid (ht.below HB0.out)
  have hsz : w.heap.size < W0.heap.size := by rw [hW0]; simp
  clear h ht hf hna hnf hA hF hca hcf
  go_enter Tryd.func3, Tryd.ntmps3
  go_wp2_with fail
  rw [← hW0]
  refine (Sp.awake_any _).mono ?_
  rintro e w1 ⟨rfl, hb1⟩
  have HB1 := Lib.hid hb1
  clear hb1 hW0
  obtain ⟨c0, c1, c2⟩ := HBOX.out w1 HB1.out
  have hsz1 : w.heap.size < w1.heap.size := Nat.lt_of_lt_of_le hsz HB1.out.size
  go_wp2_with fail
  have HP1 := Lib.hid (HPA.out w1 false (HS.out.keep HB1.out HB1.out.size))
  refine (may_any _ (w1.heap.size + 1) (by simp) _ 2 2 _ HP1.out).mono ?_
  rintro e w2 ⟨rfl, hb2⟩
  obtain ⟨lb, hlb⟩ : ∃ b, looseB (([x, ⟨⟨false, [], []⟩, none, 0, none, 0⟩] : List Lsh).map (·.d)) = b := ⟨_, rfl⟩
  rw [hlb]
  have HB2 : Hid (Below W0.heap.size W0 w2) := bcall HB1.out ((bnew (brefl w1) _).trans (hb2.mono (by simp)))
  clear hb2 HP1
  cases lb
  · clear hlb HPA HBOX HS c0 c1 c2
    go_wp2_with fail
    go_ret
    exact ⟨rfl, bcall HB0.out HB2.out⟩
  · have HG : Hid (LGood [D, endS]) := by
      have h1 := (loose_iff _).1 hlb
      have e : ([x, ⟨⟨false, [], []⟩, none, 0, none, 0⟩] : List Lsh).map (·.d) = [D, ⟨false, [], []⟩] := by rw [← hD]; rfl
      rw [e] at h1
      exact good_end h1
    clear hlb c0 c1 c2 HB1
    obtain ⟨c0, c1, c2⟩ := HBOX.out w2 HB2.out
    have hsz2 : w.heap.size < w2.heap.size := Nat.lt_of_lt_of_le hsz HB2.out.size
    have HP2 := Lib.hid (HPA.out w2 true (HS.out.keep HB2.out HB2.out.size))
    have HC2 : Hid (∀ W, Below (w2.heap.size + 1) (w2.alloc (.cells #[.bool f, .slice A na ca, .slice F nf cf, .bool true, .slice none 0 0, .slice none 0 0] 25)) W → W.cell? ⟨w2.heap.size, 1, none⟩ = some (.slice A na ca)) := fun W hW => by
      rw [hW.cell (p := ⟨w2.heap.size, 1, none⟩) (by show w2.heap.size < _; omega)]
      have ho := (own_new w2 #[.bool f, .slice A na ca, .slice F nf cf, .bool true, .slice none 0 0, .slice none 0 0] 25 3 2 rfl (by unfold maxLen; omega) (nb := w2.heap.size) rfl (base := 0) (Nat.zero_le _)).cells (g := w2.heap.size) rfl 1 _ rfl
      rw [Addr.add_lit, Nat.zero_add] at ho
      exact ho
    have HB2' : Hid (Below W0.heap.size W0 (w2.alloc (.cells #[.bool f, .slice A na ca, .slice F nf cf, .bool true, .slice none 0 0, .slice none 0 0] 25))) := bnew HB2.out _
    have hs2 : (w2.alloc (.cells #[.bool f, .slice A na ca, .slice F nf cf, .bool true, .slice none 0 0, .slice none 0 0] 25)).heap.size = w2.heap.size + 1 := by simp
    have HLE := Lib.hid (lead_any (w2.alloc (.cells #[.bool f, .slice A na ca, .slice F nf cf, .bool true, .slice none 0 0, .slice none 0 0] 25)) (w2.heap.size + 1) (by simp) _ 2 2 _ HP2.out (by omega) (fun y hy => by
      simp only [List.mem_cons, List.not_mem_nil, or_false] at hy
      rcases hy with rfl | rfl
      · rw [hD]
        have := HS.out.ar.2.2
        have := HS.out.fr.2.2.1
        rw [hD] at *
        exact ⟨by assumption, by assumption⟩
      · exact ⟨Nat.zero_le _, Nat.zero_le _⟩) 0 1 (by omega) (by omega) lo hi)
    go_wp2_with fail
    refine HLE.out.mono ?_
    rintro e w3 ⟨go, m, cp, hs, rfl, hlo, hle, hm, har, hfr⟩
    have he : ([x, ⟨⟨true, [], []⟩, none, 0, none, 0⟩] : List Lsh).map (·.d) = [D, endS] := by rw [← hD]; rfl
    have HE := Lib.hid he
    have HPI : Hid (∀ W, Below w3.heap.size w3 W → w2.heap.size + 1 ≤ W.heap.size ∧ LoIn W (w2.heap.size + 1) (some ⟨w2.heap.size, 0, none⟩) 2 2 [x, ⟨⟨true, [], []⟩, none, 0, none, 0⟩]) := fun W hW => by
      have h1 := hlo.bel.size
      rw [hs2] at h1
      have h2 := hlo.bel
      rw [hs2] at h2
      exact ⟨Nat.le_trans h1 hW.size, HP2.out.keep (h2.trans (hW.mono h1)) (Nat.le_refl _)⟩
    rw [he] at hle
    have hml := hlo.len
    have hm2 : 2 ≤ m := by
      have h1 := (lead_len D lo hi).2
      have h2 := congrArg List.length hle
      rw [List.length_map] at h2
      omega
    have hm62 : m ≤ 62 := by
      have h1 := (lead_len D lo hi).1
      have h2 := congrArg List.length hle
      rw [List.length_map] at h2
      omega
    have HLL := Lib.hid hle
    have HGL : Hid (LGood (hs.map (·.d))) := by rw [hle]; exact lead_good HG.out
    have HIN : Hid (LoIn w3 w3.heap.size (some ⟨go, 0, none⟩) m cp hs) := hlo.lo (by omega) (fun y hy => by have := har y hy; omega) (fun y hy => by have := hfr y hy; omega)
    have HFIN : ∀ (j : Nat) (y : Lsh), hs[j]? = some y → ∀ b, [D.fin, true][j]? = some b → y.d.fin = b := fun j y hy b hb => by
      have h1 := congrArg (fun l : List Lst => (l.map (·.fin))[j]?) hle
      simp only [leadRows_fin, List.map_map] at h1
      rw [List.getElem?_map, hy, List.getElem?_append_left (by have := (List.getElem?_eq_some_iff.1 hb).1; simpa using this)] at h1
      have h2 : ([D, endS].map (·.fin))[j]? = some b := hb
      rw [h2] at h1
      injection h1 with h1
    obtain ⟨y0, hy0⟩ : ∃ y, hs[0]? = some y := ⟨hs[0]'(by omega), List.getElem?_eq_getElem _⟩
    obtain ⟨y1, hy1⟩ : ∃ y, hs[1]? = some y := ⟨hs[1]'(by omega), List.getElem?_eq_getElem _⟩
    obtain ⟨k0, _, _⟩ := lo_cell hlo.out hy0
    obtain ⟨k1, _, _⟩ := lo_cell hlo.out hy1
    rw [HFIN 0 y0 hy0 _ rfl, HXD.out.1, Nat.zero_mul] at k0
    rw [HFIN 1 y1 hy1 _ rfl, Nat.one_mul] at k1
    have hgo := (own_blk hlo.out).2.1
    have HW3 : Hid (Below W0.heap.size W0 w3) := bcall HB2'.out hlo.bel
    have HA3 : Hid (∀ W, Below w3.heap.size w3 W → W.cell? ⟨w.heap.size, 0, none⟩ = some (.bool f) ∧ W.cell? ⟨w.heap.size, 1, none⟩ = some (.slice A na ca) ∧ W.cell? ⟨w2.heap.size, 1, none⟩ = some (.slice A na ca) ∧ W.cell? ⟨go, 0, none⟩ = some (.bool f) ∧ W.cell? ⟨go, 3, none⟩ = some (.bool true)) := fun W hW => by
      obtain ⟨z0, z1, _⟩ := HBOX.out W (bcall HW3.out hW)
      refine ⟨z0, z1, HC2.out W ((hlo.bel.mono (by simp)).trans (hW.mono ?_)), (hW.cell (p := ⟨go, 0, none⟩) hgo).trans k0, (hW.cell (p := ⟨go, 3, none⟩) hgo).trans k1⟩
      have := hlo.bel.size
      rw [hs2] at this
      exact this
    have HMY : Hid (∀ W, Below w3.heap.size w3 W → Calls Tryd.prog 11 #[.slice (some ⟨go, 0, none⟩) m cp] W fun e w' => e = .returned (.bool true) ∧ Below w3.heap.size w3 w') := fun W hW => by
      refine (may_any W w3.heap.size hW.size _ m cp hs (HIN.out.keep hW (Nat.le_refl _))).mono ?_
      rintro e w' ⟨rfl, hb⟩
      exact ⟨by rw [(loose_iff _).2 HGL.out], bcall hW hb⟩
    obtain ⟨a0, a1, a2, a3, a4⟩ := HA3.out w3 (brefl w3)
    have hsz3 : w.heap.size < w3.heap.size := Nat.lt_of_lt_of_le hsz HW3.out.size
    have hsz4 : w2.heap.size < w3.heap.size := by have := hlo.bel.size; rw [hs2] at this; omega
    have i0 : 0 < m := by omega
    have i1 : 1 < m := by omega
    have i2 : (1 : Int) < (m : Int) := by omega
    have q1 : decide ((m : Int) < 2) = false := decide_eq_false (by omega)
    have q11 : decide (m < 2) = false := decide_eq_false (by omega)
    clear hlo hle har hfr k0 k1 HFIN HLE HB2' HPA c0 c1 c2 hy0 hy1 he hs2 HP2
    go_wp2_with fail
    go_region_held3 (fun w' => w'.cell? ⟨w.heap.size, 0, none⟩ = some (.bool f) ∧ w'.cell? ⟨w.heap.size, 1, none⟩ = some (.slice A na ca) ∧ w'.cell? ⟨w2.heap.size, 1, none⟩ = some (.slice A na ca) ∧ w'.cell? ⟨go, 0, none⟩ = some (.bool f) ∧ w'.cell? ⟨go, 3, none⟩ = some (.bool true))
      (first
        | assumption
        | exact ⟨a0, a1, a2, a3, a4⟩
        | (refine HA3.out _ ?_; (repeat (first | exact brefl _ | exact HW4.out | refine Below.drew ?_ | refine bnew ?_ _)); done))
      (first
        | (go_at_call 11
           refine (HMY.out _ (by repeat (first | exact brefl _ | refine Below.drew ?_ | refine bnew ?_ _))).mono ?_
           rintro e w4 ⟨rfl, hb4⟩
           have HW4 := Lib.hid hb4
           clear hb4))
    clear HA3 HMY HBOX a0 a1 a2 a3 a4 q1 q11 i0 i1 i2 HC2 hgo
    obtain ⟨wb, hwb⟩ : ∃ b, Sp.wholeB c = b := ⟨_, rfl⟩
    cases wb
    · clear HIN HGL HPI HT
      go_wp2_with fail
      refine (bytes_no c hwb _).mono ?_
      rintro e w5 ⟨rfl, hb5⟩
      have HB5 := Lib.hid (bcall (bcall HW3.out HW4.out) hb5)
      clear hb5 HW4 HW3
      go_wp2_with fail
      go_ret
      exact ⟨rfl, bcall HB0.out HB5.out⟩
    · obtain ⟨t, ht1, ht2, ht4, htn⟩ := chars_bytes hwb
      have HSAY := Lib.hid (lead_says (lo := lo) (hi := hi) HG.out hwb ht2)
      have hq : (t == []) = false := by cases t with
        | nil => exact absurd rfl htn
        | cons a b => rfl
      have hq2 : (([] : List UInt8) == t) = false := by cases t with
        | nil => exact absurd rfl htn
        | cons a b => rfl
      go_wp2_with fail
      refine (Sp.bytes_any c hwb _).mono ?_
      rintro e w5 ⟨rfl, hb5⟩
      rw [ht1]
      have HB5 := Lib.hid (bcall HW4.out hb5)
      clear hb5 HW4 ht1 ht2 htn hwb
      go_wp2_with fail
      refine (takes_any w5 (w2.heap.size + 1) (HPI.out w5 HB5.out).1 _ 2 2 _ (HPI.out w5 HB5.out).2 (by rw [HE.out]; exact HG.out) t (by omega)).mono ?_
      rintro e w6 ⟨rfl, hb6⟩
      rw [HE.out]
      have HB6 := Lib.hid (bcall HB5.out hb6)
      clear hb6 HB5
      obtain ⟨p, hp⟩ : ∃ p, looseTakes [D, endS] t = p := ⟨_, rfl⟩
      rw [hp] at HSAY
      rw [hp]
      obtain ⟨d1, hd1⟩ : ∃ b, decide (c ≥ lo) = b := ⟨_, rfl⟩
      obtain ⟨d2, hd2⟩ : ∃ b, decide (c ≤ hi) = b := ⟨_, rfl⟩
      rw [hd1, hd2] at HSAY
      have hL : (leadRows [D, endS] 0 1 (Sp.allP lo hi)).length = m := by rw [← HLL.out, List.length_map, hml]
      have HNF : Hid (∀ f : Nat, ¬ ((20000 : Int) < (((subW (hs.map (·.d))).run f 0 [setL m (Clo (hs.map (·.d)) fun x => x = 0)]).length : Nat))) := fun f => by
        rw [HLL.out]
        have h1 := lead_few (lo := lo) (hi := hi) HG.out.inE f
        rw [hL] at h1
        omega
      have hcase : p = true ∨ (p = false ∧ d1 = false) ∨ (p = false ∧ d1 = true ∧ d2 = false) ∨ (p = false ∧ d1 = true ∧ d2 = true) := by cases p <;> cases d1 <;> cases d2 <;> simp
      clear hp HE HPI HG hL hq hq2 hsz3 hsz4 hsz2 hsz1 hsz
      rcases hcase with rfl | ⟨rfl, rfl⟩ | ⟨rfl, rfl, rfl⟩ | ⟨rfl, rfl, rfl⟩
      all_goals
        simp only [Bool.true_or, Bool.false_or, Bool.false_and, Bool.and_false, Bool.true_and, Bool.and_true] at HSAY
        go_wp2_with fail
        refine (tight_any w6 w3.heap.size HB6.out.size _ m cp hs (HIN.out.keep HB6.out (Nat.le_refl _)) (by omega) HGL.out 20000 (by omega) (HT.out.below (bcall HW3.out HB6.out))).mono ?_
        rintro e w7 (⟨⟨f', hf'⟩, _, _⟩ | ⟨_, v7, X, dd, rfl, hown7, hl7, hq7, hle7, hd7, hb7⟩)
        · exact absurd hf' (by have := HNF.out f'; omega)
        · have hxl : X.length ≤ 20000 := by omega
          have hxl2 : (X.map (·.d)).length ≤ 20000 := by rw [List.length_map]; exact hxl
          have HXG := Lib.hid (hl7.good hxl2)
          have HXT := Lib.hid ((tight_takes (l := hs.map (·.d)) hl7 (by rw [List.length_map, hml]; exact hq7) hxl2 t).trans ((congrArg (fun l => looseTakes l t) HLL.out).trans HSAY.out))
          obtain ⟨Ax, cx, rfl, hx7⟩ := use_sts hown7 hxl HXG.out
          obtain ⟨nx, hnx⟩ : ∃ k, X.length = k := ⟨_, rfl⟩
          rw [hnx] at hx7 hxl ⊢
          have HX7 := Lib.hid hx7
          have HB7 := Lib.hid (bcall HB6.out hb7)
          clear hown7 hl7 hq7 hle7 hd7 hxl2 hx7 hb7 hnx HNF HB6
          go_wp2_with fail
          refine (takes_any w7 w3.heap.size HB7.out.size _ m cp hs (HIN.out.keep HB7.out (Nat.le_refl _)) HGL.out t (by omega)).mono ?_
          rintro e w8 ⟨rfl, hb8⟩
          rw [HLL.out, HSAY.out]
          have HX8 := Lib.hid (HX7.out.keep hb8 (Nat.le_refl _))
          have hs8 := hb8.size
          have HB8 := Lib.hid (bcall HB7.out hb8)
          clear hb8 HX7 HIN HT
          go_wp2_with fail
          refine (accepts_any w8 w7.heap.size hs8 Ax nx cx X HX8.out t (by omega)).mono ?_
          rintro e w9 ⟨rfl, hb9⟩
          rw [HXT.out]
          have HB9 := Lib.hid (bcall (bcall HW3.out HB8.out) hb9)
          clear hb9 HX8 HB7 HB8 hs8
          go_wp2_with fail
          go_ret
          exact ⟨rfl, bcall HB0.out HB9.out⟩
theorem lead_walkc (w : World) (lo : Int) (_ : (Lit.int .i64 lo).wf = true) (hi : Int) (_ : (Lit.int .i64 hi).wf = true) (c : Int) (_ : (Lit.int .i64 c).wf = true) (x : Lsh) (h : OneIn w w.heap.size x) (ht : Tab w) :
    Calls Tryd.prog 3 #[.int .i64 lo, .int .i64 hi, .int .i64 c, .agg #[.bool x.d.fin, .slice x.A x.d.arcs.length x.c, .slice x.F x.d.free.length x.e]] w fun e w' => e = .returned (.bool true) ∧ Below w.heap.size w w' := lead_walk w lo hi c x h ht
end Go.Proofs.YtclahhkcbkpofaaDoor
/- What the bound on the bulk gives. -/
namespace Go.Proofs.YtclahhkcbkpofaaDoor
theorem bulk_one {H : Type} (d : DataW H) : 1 ≤ Rows.uptoBulk d := by
  cases d with
  | lit l => cases l <;> simp [Rows.uptoBulk]
  | nil => simp [Rows.uptoBulk]
  | ptr d => simp [Rows.uptoBulk]
  | slice elems spare => simp [Rows.uptoBulk]
  | agg parts => simp [Rows.uptoBulk]
  | iface t d => simp [Rows.uptoBulk]
  | map entries => simp [Rows.uptoBulk]
  | held h => simp [Rows.uptoBulk]
theorem bulk_mem {H : Type} {d : DataW H} {l : List (DataW H)} (h : d ∈ l) : Rows.uptoBulk d ≤ Rows.uptoBulkAll l := by
  induction l with
  | nil => cases h
  | cons x r ih =>
    simp only [Rows.uptoBulkAll]
    rcases List.mem_cons.1 h with e | e
    · subst e; omega
    · have := ih e; omega
theorem bulk_len {H : Type} (l : List (DataW H)) : l.length ≤ Rows.uptoBulkAll l := by
  induction l with
  | nil => simp [Rows.uptoBulkAll]
  | cons x r ih => have := bulk_one x; simp only [Rows.uptoBulkAll, List.length_cons]; omega
theorem bulk_law (H : Type) : BulkLaw (H := H) Rows.uptoBulk where
  len := fun es sp => by
    have := bulk_len es
    simp only [Rows.uptoBulk]
    omega
  elem := fun es sp d hd => by
    have := bulk_mem hd
    simp only [Rows.uptoBulk]
    omega
  part := fun ps d hd => by
    have := bulk_mem hd
    simp only [Rows.uptoBulk]
    omega
  str := fun s => by simp [Rows.uptoBulk]
theorem bulk_part {H : Type} {l : List (DataW H)} (hk : Rows.uptoSmall H l = true) {d : DataW H} (hd : d ∈ l) : Rows.uptoBulk d ≤ 1048576 := by
  have h1 : Rows.uptoBulkAll l ≤ 1048576 := of_decide_eq_true hk
  exact Nat.le_trans (bulk_mem hd) h1
end Go.Proofs.YtclahhkcbkpofaaDoor
/- Bytes as characters: a prefix code (plain Lean). -/
namespace Go.Proofs.YtclahhkcbkpofaaDoor
open Sp
set_option linter.unusedVariables false
/-- The bytes of characters. -/
def encs (l : List Int) : List Nat := l.flatMap encN
theorem encs_app (a b : List Int) : encs (a ++ b) = encs a ++ encs b := List.flatMap_append ..
theorem encs_one (c : Int) : encs [c] = encN c := by simp [encs]
/-- A character by its first byte. -/
theorem enc_head {c : Int} (hw : wholeB c = true) : (0 ≤ c ∧ c < 128 ∧ encN c = [c.toNat]) ∨ (128 ≤ c ∧ c < 2048 ∧ ∃ a b : Nat, encN c = [a, b] ∧ 192 ≤ a ∧ a < 224 ∧ 128 ≤ b ∧ b ≤ 191 ∧ c = ((a : Int) - 192) * 64 + (b - 128)) ∨
    (2048 ≤ c ∧ c < 65536 ∧ ∃ a b d : Nat, encN c = [a, b, d] ∧ 224 ≤ a ∧ a < 240 ∧ 128 ≤ b ∧ b ≤ 191 ∧ 128 ≤ d ∧ d ≤ 191 ∧ c = (((a : Int) - 224) * 64 + (b - 128)) * 64 + (d - 128)) ∨
    (65536 ≤ c ∧ c ≤ 1114111 ∧ ∃ a b d e : Nat, encN c = [a, b, d, e] ∧ 240 ≤ a ∧ a < 248 ∧ 128 ≤ b ∧ b ≤ 191 ∧ 128 ≤ d ∧ d ≤ 191 ∧ 128 ≤ e ∧ e ≤ 191 ∧ c = ((((a : Int) - 240) * 64 + (b - 128)) * 64 + (d - 128)) * 64 + (e - 128)) := by
  obtain ⟨h0, h1, _⟩ := whole_of hw
  unfold encN encC
  split
  · exact .inl ⟨h0, by omega, rfl⟩
  · split
    · exact .inr (.inl ⟨by omega, by omega, _, _, rfl, by omega, by omega, by omega, by omega, by omega⟩)
    · split
      · exact .inr (.inr (.inl ⟨by omega, by omega, _, _, _, rfl, by omega, by omega, by omega, by omega, by omega, by omega, by omega⟩))
      · exact .inr (.inr (.inr ⟨by omega, by omega, _, _, _, _, rfl, by omega, by omega, by omega, by omega, by omega, by omega, by omega, by omega, by omega⟩))
theorem enc_one {a : Nat} (h : a < 128) : encN (a : Int) = [a] := by
  unfold encN encC
  rw [if_pos (by omega)]
  rfl
theorem enc_two {a b : Nat} (h1 : 192 ≤ a) (h2 : a < 224) (h3 : 128 ≤ b) (h4 : b ≤ 191) (h5 : 128 ≤ ((a : Int) - 192) * 64 + (b - 128)) : encN (((a : Int) - 192) * 64 + (b - 128)) = [a, b] := by
  unfold encN encC
  rw [if_neg (by omega), if_pos (by omega)]
  simp only [List.map_cons, List.map_nil, List.cons.injEq, and_true]
  omega
theorem enc_three {a b d : Nat} (h1 : 224 ≤ a) (h2 : a < 240) (h3 : 128 ≤ b) (h4 : b ≤ 191) (h5 : 128 ≤ d) (h6 : d ≤ 191) (h7 : 2048 ≤ (((a : Int) - 224) * 64 + (b - 128)) * 64 + (d - 128)) : encN ((((a : Int) - 224) * 64 + (b - 128)) * 64 + (d - 128)) = [a, b, d] := by
  unfold encN encC
  rw [if_neg (by omega), if_neg (by omega), if_pos (by omega)]
  simp only [List.map_cons, List.map_nil, List.cons.injEq, and_true]
  omega
theorem enc_four {a b d e : Nat} (h1 : 240 ≤ a) (h2 : a < 248) (h3 : 128 ≤ b) (h4 : b ≤ 191) (h5 : 128 ≤ d) (h6 : d ≤ 191) (h7 : 128 ≤ e) (h8 : e ≤ 191) (h9 : 65536 ≤ ((((a : Int) - 240) * 64 + (b - 128)) * 64 + (d - 128)) * 64 + (e - 128)) : encN (((((a : Int) - 240) * 64 + (b - 128)) * 64 + (d - 128)) * 64 + (e - 128)) = [a, b, d, e] := by
  unfold encN encC
  rw [if_neg (by omega), if_neg (by omega), if_neg (by omega)]
  simp only [List.map_cons, List.map_nil, List.cons.injEq, and_true]
  omega
theorem encN_ne {c : Int} : encN c ≠ [] := fun e => by
  have h1 := (encC_len c).1
  have h2 := congrArg List.length e
  unfold encN at h2
  rw [List.length_map, List.length_nil] at h2
  omega
/-- No character's bytes begin another's. -/
theorem enc_pre {c c' : Int} (hw : wholeB c = true) (hw' : wholeB c' = true) {r r' : List Nat} (h : encN c ++ r = encN c' ++ r') : c = c' ∧ r = r' := by
  rcases enc_head hw with ⟨_, _, e⟩ | ⟨_, _, a, b, e, _, _, _, _, hc⟩ | ⟨_, _, a, b, d, e, _, _, _, _, _, _, hc⟩ | ⟨_, _, a, b, d, f, e, _, _, _, _, _, _, _, _, hc⟩ <;>
    rcases enc_head hw' with ⟨_, _, e'⟩ | ⟨_, _, a', b', e', _, _, _, _, hc'⟩ | ⟨_, _, a', b', d', e', _, _, _, _, _, _, hc'⟩ | ⟨_, _, a', b', d', f', e', _, _, _, _, _, _, _, _, hc'⟩ <;>
    rw [e, e'] at h <;> simp only [List.cons_append, List.nil_append, List.cons.injEq] at h <;>
    first
      | omega
      | (obtain ⟨rfl, rfl, rfl, rfl, h⟩ := h; exact ⟨by omega, h⟩)
      | (obtain ⟨rfl, rfl, rfl, h⟩ := h; exact ⟨by omega, h⟩)
      | (obtain ⟨rfl, rfl, h⟩ := h; exact ⟨by omega, h⟩)
      | (obtain ⟨h0, h⟩ := h; exact ⟨by omega, h⟩)
theorem encs_pre : ∀ {l1 l : List Int} {r : List Nat}, (∀ c ∈ l1, wholeB c = true) → (∀ c ∈ l, wholeB c = true) → encs l1 ++ r = encs l → ∃ l2, l = l1 ++ l2 ∧ r = encs l2
  | [], l, r, _, _, h => ⟨l, rfl, h⟩
  | c :: l1, [], r, _, _, h => by
    exfalso
    have h1 : encN c ++ (encs l1 ++ r) = [] := by rw [← List.append_assoc]; exact h
    exact encN_ne (List.append_eq_nil_iff.1 h1).1
  | c :: l1, c' :: l, r, h1, h2, h => by
    have h3 : encN c ++ (encs l1 ++ r) = encN c' ++ encs l := by rw [← List.append_assoc]; exact h
    obtain ⟨rfl, h4⟩ := enc_pre (h1 c (List.mem_cons_self ..)) (h2 c' (List.mem_cons_self ..)) h3
    obtain ⟨l2, rfl, h5⟩ := encs_pre (fun x hx => h1 x (List.mem_cons_of_mem _ hx)) (fun x hx => h2 x (List.mem_cons_of_mem _ hx)) h4
    exact ⟨l2, rfl, h5⟩
theorem encs_inj {l l' : List Int} (h1 : ∀ c ∈ l, wholeB c = true) (h2 : ∀ c ∈ l', wholeB c = true) (h : encs l = encs l') : l = l' := by
  obtain ⟨l2, e, h3⟩ := encs_pre (r := []) h1 h2 (by rw [List.append_nil]; exact h)
  cases l2 with
  | nil => rw [e, List.append_nil]
  | cons c l2 =>
    exfalso
    have h4 : encN c ++ encs l2 = [] := h3.symm
    exact encN_ne (List.append_eq_nil_iff.1 h4).1
/-- These bytes are these characters'. -/
def Dec (s : List Nat) (l : List Int) : Prop := (∀ c ∈ l, wholeB c = true) ∧ s = encs l
theorem Dec.inj {s : List Nat} {l l' : List Int} (h : Dec s l) (h' : Dec s l') : l = l' := encs_inj h.1 h'.1 (h.2.symm.trans h'.2)
theorem Dec.nil : Dec [] [] := ⟨fun c h => absurd h List.not_mem_nil, rfl⟩
/-- The character that begins a text. -/
def Fst1 (s : List Nat) (c : Int) : Prop := wholeB c = true ∧ ∃ r, s = encN c ++ r
theorem Dec.more {s1 r : List Nat} {l1 : List Int} {c : Int} (h : Dec s1 l1) (hw : wholeB c = true) : Dec (s1 ++ encN c) (l1 ++ [c]) := by
  refine ⟨fun x hx => ?_, by rw [encs_app, encs_one, h.2]⟩
  rcases List.mem_append.1 hx with hx | hx
  · exact h.1 x hx
  · rw [List.mem_singleton.1 hx]; exact hw
theorem Dec.bad {s1 r : List Nat} {l1 : List Int} (h : Dec s1 l1) (hr : r ≠ []) (hn : ∀ c, ¬ Fst1 r c) (l : List Int) : ¬ Dec (s1 ++ r) l := fun h' => by
  have h1 := h'.2
  rw [h.2] at h1
  obtain ⟨l2, rfl, h2⟩ := encs_pre h.1 h'.1 h1
  cases l2 with
  | nil => exact hr h2
  | cons c l2 => exact hn c ⟨h'.1 c (by simp), encs l2, h2⟩
end Go.Proofs.YtclahhkcbkpofaaDoor
