/- The reference's Same (glossref08). -/
import Derived.Test.YtebdffabfimmkaaDoorHDfaTakes7
import Derived.Test.YtebdffabfimmkaaDoorHDfaTakes10
import Derived.Deep.RegionHeld3
namespace Go.Proofs.YtebdffabfimmkaaDoor
open Go.RowKit

theorem neq_arc (w : World) (a b : Arc3) : (binOp .neq 41 (.agg #[.int .i64 a.1, .int .i64 a.2.1, .int .i64 a.2.2]) (.agg #[.int .i64 b.1, .int .i64 b.2.1, .int .i64 b.2.2])).run Tryd.prog w = .ok (.bool (!decide (a = b))) w := by
  rw [run_neq_struct, run_equalIn_agg _ _ _ _ _ (by kernel_rfl) (by kernel_rfl)]
  simp [go_sem, Program.fieldsOf, Tryd.underlying41]
  obtain ⟨a1, a2, a3⟩ := a
  obtain ⟨b1, b2, b3⟩ := b
  by_cases h1 : a1 = b1 <;> by_cases h2 : a2 = b2 <;> by_cases h3 : a3 = b3 <;> simp [h1, h2, h3]
theorem gu_arc : Tryd.prog.eqGuardType Tryd.prog.depth 41 = false := by kernel_rfl
set_option maxRecDepth 100000 in
set_option maxHeartbeats 8000000 in
theorem rsame_any (w : World) (B : Nat) (hB : B ≤ w.heap.size) (A A' : Option Addr) (n c n' c' : Nat) (H H' : List Sh) (h : StsIn w B A n c H) (h' : StsIn w B A' n' c' H') :
    Calls Tryd.prog 17 #[.slice A n c, .slice A' n' c'] w fun e w' => e = .returned (.bool (decide (H.map (·.d) = H'.map (·.d)))) ∧ Below w.heap.size w w' := by
  have HS := Lib.hid h
  have HS' := Lib.hid h'
  have hlen := h.len
  have hlen' := h'.len
  have hcm := h.cm
  by_cases hn : n = n'
  rotate_left
  · have HN : Hid (decide (H.map (·.d) = H'.map (·.d)) = false) := decide_eq_false fun e => hn (by have := congrArg List.length e; rw [List.length_map, List.length_map] at this; omega)
    have q1 : ((n : Int) != (n' : Int)) = true := by simp; omega
    have q2 : (n != n') = true := by simp; omega
    clear h h' hn
    go_enter Tryd.func17, Tryd.ntmps17
    go_wp2_with fail
    go_ret
    exact ⟨by rw [HN.out]; rfl, brefl w⟩
  subst hn
  clear h h'
  go_enter Tryd.func17, Tryd.ntmps17
  go_wp2_with fail
  go_loopw [5] (fun iv wr => ∃ k : Nat, k ≤ n ∧ iv = .int .i64 k ∧ Hid ((H.take k).map (·.d) = (H'.take k).map (·.d)) ∧ Hid (Below w.heap.size w wr)) (fun iv _ => n - (intOf iv).toNat)
  case atStart => exact ⟨0, Nat.zero_le _, rfl, rfl, brefl w⟩
  case round =>
    obtain ⟨k, hk, rfl, HL, HB⟩ := hrel
    by_cases hlt : k < n
    · have HW := Lib.hid (HS.out.keep (HB.out.mono hB) (Nat.le_refl _))
      have HW' := Lib.hid (HS'.out.keep (HB.out.mono hB) (Nat.le_refl _))
      obtain ⟨x, hx⟩ : ∃ x, H[k]? = some x := ⟨H[k]'(by omega), List.getElem?_eq_getElem _⟩
      obtain ⟨y, hy⟩ : ∃ y, H'[k]? = some y := ⟨H'[k]'(by omega), List.getElem?_eq_getElem _⟩
      obtain ⟨b, off, rfl, hb, hcell⟩ := HW.out.at_ (by omega)
      obtain ⟨b', off', rfl, hb', hcell'⟩ := HW'.out.at_ (by omega)
      obtain ⟨k0, k1⟩ := hcell k x hx
      obtain ⟨k2, k3⟩ := hcell' k y hy
      have HX := Lib.hid hx
      have HY := Lib.hid hy
      have hxl := (HS.out.ar x (List.mem_of_getElem? hx)).2
      have hyl := (HS'.out.ar y (List.mem_of_getElem? hy)).2
      obtain ⟨m, hm⟩ : ∃ m, x.d.2.length = m := ⟨_, rfl⟩
      obtain ⟨m', hm'⟩ : ∃ m, y.d.2.length = m := ⟨_, rfl⟩
      rw [hm] at k1 hxl
      rw [hm'] at k3 hyl
      have HM := Lib.hid hm
      have HM' := Lib.hid hm'
      obtain ⟨fx, hfx⟩ : ∃ f, x.d.1 = f := ⟨_, rfl⟩
      obtain ⟨fy, hfy⟩ : ∃ f, y.d.1 = f := ⟨_, rfl⟩
      rw [hfx] at k0
      rw [hfy] at k2
      have HF := Lib.hid (And.intro hfx hfy)
      have hNE : x.d ≠ y.d → decide (H.map (·.d) = H'.map (·.d)) = false := fun hne => decide_eq_false fun e => by
        have h1 : (H.map (·.d))[k]? = some x.d := by rw [List.getElem?_map, hx]; rfl
        have h2 : (H'.map (·.d))[k]? = some y.d := by rw [List.getElem?_map, hy]; rfl
        rw [e, h2] at h1
        injection h1 with h1
        exact hne h1.symm
      have HNE := Lib.hid hNE
      clear hcell hcell' hx hy hm hm' hfx hfy hNE
      obtain ⟨hxc, hxm⟩ := hxl
      obtain ⟨hyc, hym⟩ := hyl
      have hcase : (fx = true ∧ fy = false) ∨ (fx = false ∧ fy = true) ∨ (fx = true ∧ fy = true) ∨ (fx = false ∧ fy = false) := by cases fx <;> cases fy <;> simp
      rcases hcase with ⟨rfl, rfl⟩ | ⟨rfl, rfl⟩ | ⟨rfl, rfl⟩ | ⟨rfl, rfl⟩
      · have HN : Hid (decide (H.map (·.d) = H'.map (·.d)) = false) := HNE.out fun e => by
          have h1 := HF.out.1
          rw [e, HF.out.2] at h1
          cases h1
        go_wp2_with fail
        go_region
        all_goals
          go_wp2_with fail
          go_ret
          exact ⟨by rw [HN.out]; rfl, by first | exact HB.out | exact Below.drew HB.out⟩
      · have HN : Hid (decide (H.map (·.d) = H'.map (·.d)) = false) := HNE.out fun e => by
          have h1 := HF.out.1
          rw [e, HF.out.2] at h1
          cases h1
        go_wp2_with fail
        go_region
        all_goals
          go_wp2_with fail
          go_ret
          exact ⟨by rw [HN.out]; rfl, by first | exact HB.out | exact Below.drew HB.out⟩
      all_goals
        by_cases hmm : m = m'
        rotate_left
        · have q2 : ((m : Int) != (m' : Int)) = true := by simp; omega
          have q3 : (m != m') = true := by simpa using hmm
          have HN : Hid (decide (H.map (·.d) = H'.map (·.d)) = false) := HNE.out fun e => hmm (by rw [← HM.out, ← HM'.out, e])
          clear hmm
          go_wp2_with fail
          go_region
          all_goals
            go_wp2_with fail
            go_ret
            exact ⟨by rw [HN.out]; rfl, by first | exact HB.out | exact Below.drew HB.out⟩
        subst hmm
        go_wp2_with fail
        go_region
        have HBD := Lib.hid HB.out.drew
        clear k0 k1 k2 k3 HW HW'
        go_wp2_with fail
        go_loopw [6] (fun gv wj => ∃ g : Nat, g ≤ m ∧ gv = .int .i64 g ∧ Hid (x.d.2.take g = y.d.2.take g) ∧ Hid (Below w.heap.size w wj)) (fun gv _ => m - (intOf gv).toNat)
        case atStart => exact ⟨0, Nat.zero_le _, rfl, rfl, HBD⟩
        case round =>
          clear HBD HB
          obtain ⟨g, hg, rfl, HG, HB⟩ := hrel
          have HW := Lib.hid (HS.out.keep (HB.out.mono hB) (Nat.le_refl _))
          have HW' := Lib.hid (HS'.out.keep (HB.out.mono hB) (Nat.le_refl _))
          obtain ⟨b1, off1, e1, _, hcell⟩ := HW.out.at_ (by omega)
          injection e1 with e1
          injection e1 with e1 e2 _
          subst e1 e2
          obtain ⟨b2, off2, e1, _, hcell'⟩ := HW'.out.at_ (by omega)
          injection e1 with e1
          injection e1 with e1 e2 _
          subst e1 e2
          have k1 := (hcell k x HX.out).2
          have k3 := (hcell' k y HY.out).2
          rw [HM.out] at k1
          rw [HM'.out] at k3
          have hbw : b < wr.heap.size := Nat.lt_of_lt_of_le hb (Nat.le_trans hB HB.out.size)
          have hbw' : b' < wr.heap.size := Nat.lt_of_lt_of_le hb' (Nat.le_trans hB HB.out.size)
          have i0 : (0 : Int) ≤ (k : Int) := by omega
          have i1 : (k : Int) < (n : Int) := by omega
          clear hcell hcell'
          by_cases hgm : g < m
          · obtain ⟨ab, aoff, hxA, hab, hac⟩ := HW.out.arc (List.mem_of_getElem? HX.out) (by rw [HM.out]; omega)
            obtain ⟨ab', aoff', hyA, hab', hac'⟩ := HW'.out.arc (List.mem_of_getElem? HY.out) (by rw [HM'.out]; omega)
            obtain ⟨a, ha⟩ : ∃ a, x.d.2[g]? = some a := ⟨x.d.2[g]'(by rw [HM.out]; exact hgm), List.getElem?_eq_getElem _⟩
            obtain ⟨a', ha'⟩ : ∃ a, y.d.2[g]? = some a := ⟨y.d.2[g]'(by rw [HM'.out]; exact hgm), List.getElem?_eq_getElem _⟩
            obtain ⟨a0, a1, a2⟩ := hac g a ha
            obtain ⟨b0, b1, b2⟩ := hac' g a' ha'
            rw [hxA] at k1
            rw [hyA] at k3
            have habw : ab < wr.heap.size := Nat.lt_of_lt_of_le hab (Nat.le_trans hB HB.out.size)
            have habw' : ab' < wr.heap.size := Nat.lt_of_lt_of_le hab' (Nat.le_trans hB HB.out.size)
            have hnq := fun w => neq_arc w a a'
            have hgu := gu_arc
            have i2 : (0 : Int) ≤ (g : Int) := by omega
            have i3 : (g : Int) < (m : Int) := by omega
            have HA := Lib.hid ha
            have HA' := Lib.hid ha'
            clear hac hac' ha ha' hxA hyA
            by_cases he : a = a'
            · have q2 : (!decide (a = a')) = false := by rw [decide_eq_true he]; rfl
              rw [q2] at hnq
              have HGN : Hid (x.d.2.take (g + 1) = y.d.2.take (g + 1)) := by
                show _ = _
                rw [List.take_add_one, List.take_add_one, HG.out, HA.out, HA'.out, he]
              clear q2 he HA HA'
              obtain ⟨a1', a2', a3'⟩ := a
              obtain ⟨c1', c2', c3'⟩ := a'
              simp only at a0 a1 a2 b0 b1 b2 hnq
              go_wp2_with fail
              go_quiet (fail)
              go_wp2_with fail
              go_roundw
              case rel => exact ⟨g + 1, by omega, by go_num, HGN, Lib.hid (below_drewN HB.out nq)⟩
              case measure => simp [intOf]; omega
            · have q2 : (!decide (a = a')) = true := by rw [decide_eq_false he]; rfl
              rw [q2] at hnq
              have HN : Hid (decide (H.map (·.d) = H'.map (·.d)) = false) := HNE.out fun e => he (by
                have h1 := HA.out
                rw [e, HA'.out] at h1
                injection h1 with h1
                exact h1.symm)
              clear q2 he HA HA' HG
              obtain ⟨a1', a2', a3'⟩ := a
              obtain ⟨c1', c2', c3'⟩ := a'
              simp only at a0 a1 a2 b0 b1 b2 hnq
              go_wp2_with fail
              go_quiet (fail)
              go_wp2_with fail
              go_ret
              exact ⟨by rw [HN.out]; rfl, below_drewN HB.out nq⟩
          · obtain rfl : m = g := by omega
            have HLN : Hid ((H.take (k + 1)).map (·.d) = (H'.take (k + 1)).map (·.d)) := by
              show _ = _
              have h1 := HG.out
              rw [List.take_of_length_le (by rw [HM.out]; exact Nat.le_refl _), List.take_of_length_le (by rw [HM'.out]; exact Nat.le_refl _)] at h1
              have h2 : x.d = y.d := Prod.ext (HF.out.1.trans HF.out.2.symm) h1
              rw [List.take_add_one, List.take_add_one, HX.out, HY.out, List.map_append, List.map_append, HL.out]
              simp [h2]
            clear HG
            go_wp2_with fail
            go_roundw
            case rel => exact ⟨k + 1, by omega, by go_num, HLN, HB⟩
            case measure => simp [intOf]; omega
    · obtain rfl : k = n := by omega
      rw [List.take_of_length_le (by omega), List.take_of_length_le (by omega)] at HL
      have HN : Hid (decide (H.map (·.d) = H'.map (·.d)) = true) := decide_eq_true HL.out
      clear HL
      go_wp2_with fail
      go_ret
      exact ⟨by rw [HN.out]; rfl, HB.out⟩
end Go.Proofs.YtebdffabfimmkaaDoor
