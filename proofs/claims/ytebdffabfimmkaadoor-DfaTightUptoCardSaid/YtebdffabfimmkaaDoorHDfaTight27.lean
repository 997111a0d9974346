/- The reference's Same (glossref08). -/
import Derived.Test.YtebdffabfimmkaaDoorHDfaTight7
import Derived.Test.YtebdffabfimmkaaDoorHDfaTight10
import Derived.Deep.RegionHeld3
import Derived.Test.YtebdffabfimmkaaDoorHDfaTight14
import Derived.Test.YtebdffabfimmkaaDoorHDfaTight9
namespace Go.Proofs.YtebdffabfimmkaaDoor
open Go.RowKit

theorem neq_arc (w : World) (a b : Arc3) : (binOp .neq 41 (.agg #[.int .i64 a.1, .int .i64 a.2.1, .int .i64 a.2.2]) (.agg #[.int .i64 b.1, .int .i64 b.2.1, .int .i64 b.2.2])).run Tryd.prog w = .ok (.bool (!decide (a = b))) w := by
  rw [run_neq_struct, run_equalIn_agg _ _ _ _ _ (by kernel_rfl) (by kernel_rfl)]
  simp [go_sem, Program.fieldsOf, Tryd.underlying41]
  obtain ⟨a1, a2, a3⟩ := a
  obtain ⟨b1, b2, b3⟩ := b
  by_cases h1 : a1 = b1 <;> by_cases h2 : a2 = b2 <;> by_cases h3 : a3 = b3 <;> simp [h1, h2, h3]
theorem gu_arc : Tryd.prog.eqGuardType Tryd.prog.depth 41 = false := by kernel_rfl
set_option maxRecDepth 100000 in
set_option maxHeartbeats 8000000 in
theorem rsame_any (w : World) (B : Nat) (hB : B ≤ w.heap.size) (A A' : Option Addr) (n c n' c' : Nat) (H H' : List Sh) (h : StsIn w B A n c H) (h' : StsIn w B A' n' c' H') :
    Calls Tryd.prog 17 #[.slice A n c, .slice A' n' c'] w fun e w' => e = .returned (.bool (decide (H.map (·.d) = H'.map (·.d)))) ∧ Below w.heap.size w w' := by
  have HS := Lib.hid h
  have HS' := Lib.hid h'
  have hlen := h.len
  have hlen' := h'.len
  have hcm := h.cm
  by_cases hn : n = n'
  rotate_left
  · have HN : Hid (decide (H.map (·.d) = H'.map (·.d)) = false) := decide_eq_false fun e => hn (by have := congrArg List.length e; rw [List.length_map, List.length_map] at this; omega)
    have q1 : ((n : Int) != (n' : Int)) = true := by simp; omega
    have q2 : (n != n') = true := by simp; omega
    clear h h' hn
    go_enter Tryd.func17, Tryd.ntmps17
    go_wp2_with fail
    go_ret
    exact ⟨by rw [HN.out]; rfl, brefl w⟩
  subst hn
  clear h h'
  go_enter Tryd.func17, Tryd.ntmps17
  go_wp2_with fail
  go_loopw [5] (fun iv wr => ∃ k : Nat, k ≤ n ∧ iv = .int .i64 k ∧ Hid ((H.take k).map (·.d) = (H'.take k).map (·.d)) ∧ Hid (Below w.heap.size w wr)) (fun iv _ => n - (intOf iv).toNat)
  case atStart => exact ⟨0, Nat.zero_le _, rfl, rfl, brefl w⟩
  case round =>
    obtain ⟨k, hk, rfl, HL, HB⟩ := hrel
    by_cases hlt : k < n
    · have HW := Lib.hid (HS.out.keep (HB.out.mono hB) (Nat.le_refl _))
      have HW' := Lib.hid (HS'.out.keep (HB.out.mono hB) (Nat.le_refl _))
      obtain ⟨x, hx⟩ : ∃ x, H[k]? = some x := ⟨H[k]'(by omega), List.getElem?_eq_getElem _⟩
      obtain ⟨y, hy⟩ : ∃ y, H'[k]? = some y := ⟨H'[k]'(by omega), List.getElem?_eq_getElem _⟩
      obtain ⟨b, off, rfl, hb, hcell⟩ := HW.out.at_ (by omega)
      obtain ⟨b', off', rfl, hb', hcell'⟩ := HW'.out.at_ (by omega)
      obtain ⟨k0, k1⟩ := hcell k x hx
      obtain ⟨k2, k3⟩ := hcell' k y hy
      have HX := Lib.hid hx
      have HY := Lib.hid hy
      have hxl := (HS.out.ar x (List.mem_of_getElem? hx)).2
      have hyl := (HS'.out.ar y (List.mem_of_getElem? hy)).2
      obtain ⟨m, hm⟩ : ∃ m, x.d.2.length = m := ⟨_, rfl⟩
      obtain ⟨m', hm'⟩ : ∃ m, y.d.2.length = m := ⟨_, rfl⟩
      rw [hm] at k1 hxl
      rw [hm'] at k3 hyl
      have HM := Lib.hid hm
      have HM' := Lib.hid hm'
      obtain ⟨fx, hfx⟩ : ∃ f, x.d.1 = f := ⟨_, rfl⟩
      obtain ⟨fy, hfy⟩ : ∃ f, y.d.1 = f := ⟨_, rfl⟩
      rw [hfx] at k0
      rw [hfy] at k2
      have HF := Lib.hid (And.intro hfx hfy)
      have hNE : x.d ≠ y.d → decide (H.map (·.d) = H'.map (·.d)) = false := fun hne => decide_eq_false fun e => by
        have h1 : (H.map (·.d))[k]? = some x.d := by rw [List.getElem?_map, hx]; rfl
        have h2 : (H'.map (·.d))[k]? = some y.d := by rw [List.getElem?_map, hy]; rfl
        rw [e, h2] at h1
        injection h1 with h1
        exact hne h1.symm
      have HNE := Lib.hid hNE
      clear hcell hcell' hx hy hm hm' hfx hfy hNE
      obtain ⟨hxc, hxm⟩ := hxl
      obtain ⟨hyc, hym⟩ := hyl
      have hcase : (fx = true ∧ fy = false) ∨ (fx = false ∧ fy = true) ∨ (fx = true ∧ fy = true) ∨ (fx = false ∧ fy = false) := by cases fx <;> cases fy <;> simp
      rcases hcase with ⟨rfl, rfl⟩ | ⟨rfl, rfl⟩ | ⟨rfl, rfl⟩ | ⟨rfl, rfl⟩
      · have HN : Hid (decide (H.map (·.d) = H'.map (·.d)) = false) := HNE.out fun e => by
          have h1 := HF.out.1
          rw [e, HF.out.2] at h1
          cases h1
        go_wp2_with fail
        go_region
        all_goals
          go_wp2_with fail
          go_ret
          exact ⟨by rw [HN.out]; rfl, by first | exact HB.out | exact Below.drew HB.out⟩
      · have HN : Hid (decide (H.map (·.d) = H'.map (·.d)) = false) := HNE.out fun e => by
          have h1 := HF.out.1
          rw [e, HF.out.2] at h1
          cases h1
        go_wp2_with fail
        go_region
        all_goals
          go_wp2_with fail
          go_ret
          exact ⟨by rw [HN.out]; rfl, by first | exact HB.out | exact Below.drew HB.out⟩
      all_goals
        by_cases hmm : m = m'
        rotate_left
        · have q2 : ((m : Int) != (m' : Int)) = true := by simp; omega
          have q3 : (m != m') = true := by simpa using hmm
          have HN : Hid (decide (H.map (·.d) = H'.map (·.d)) = false) := HNE.out fun e => hmm (by rw [← HM.out, ← HM'.out, e])
          clear hmm
          go_wp2_with fail
          go_region
          all_goals
            go_wp2_with fail
            go_ret
            exact ⟨by rw [HN.out]; rfl, by first | exact HB.out | exact Below.drew HB.out⟩
        subst hmm
        go_wp2_with fail
        go_region
        have HBD := Lib.hid HB.out.drew
        clear k0 k1 k2 k3 HW HW'
        go_wp2_with fail
        go_loopw [6] (fun gv wj => ∃ g : Nat, g ≤ m ∧ gv = .int .i64 g ∧ Hid (x.d.2.take g = y.d.2.take g) ∧ Hid (Below w.heap.size w wj)) (fun gv _ => m - (intOf gv).toNat)
        case atStart => exact ⟨0, Nat.zero_le _, rfl, rfl, HBD⟩
        case round =>
          clear HBD HB
          obtain ⟨g, hg, rfl, HG, HB⟩ := hrel
          have HW := Lib.hid (HS.out.keep (HB.out.mono hB) (Nat.le_refl _))
          have HW' := Lib.hid (HS'.out.keep (HB.out.mono hB) (Nat.le_refl _))
          obtain ⟨b1, off1, e1, _, hcell⟩ := HW.out.at_ (by omega)
          injection e1 with e1
          injection e1 with e1 e2 _
          subst e1 e2
          obtain ⟨b2, off2, e1, _, hcell'⟩ := HW'.out.at_ (by omega)
          injection e1 with e1
          injection e1 with e1 e2 _
          subst e1 e2
          have k1 := (hcell k x HX.out).2
          have k3 := (hcell' k y HY.out).2
          rw [HM.out] at k1
          rw [HM'.out] at k3
          have hbw : b < wr.heap.size := Nat.lt_of_lt_of_le hb (Nat.le_trans hB HB.out.size)
          have hbw' : b' < wr.heap.size := Nat.lt_of_lt_of_le hb' (Nat.le_trans hB HB.out.size)
          have i0 : (0 : Int) ≤ (k : Int) := by omega
          have i1 : (k : Int) < (n : Int) := by omega
          clear hcell hcell'
          by_cases hgm : g < m
          · obtain ⟨ab, aoff, hxA, hab, hac⟩ := HW.out.arc (List.mem_of_getElem? HX.out) (by rw [HM.out]; omega)
            obtain ⟨ab', aoff', hyA, hab', hac'⟩ := HW'.out.arc (List.mem_of_getElem? HY.out) (by rw [HM'.out]; omega)
            obtain ⟨a, ha⟩ : ∃ a, x.d.2[g]? = some a := ⟨x.d.2[g]'(by rw [HM.out]; exact hgm), List.getElem?_eq_getElem _⟩
            obtain ⟨a', ha'⟩ : ∃ a, y.d.2[g]? = some a := ⟨y.d.2[g]'(by rw [HM'.out]; exact hgm), List.getElem?_eq_getElem _⟩
            obtain ⟨a0, a1, a2⟩ := hac g a ha
            obtain ⟨b0, b1, b2⟩ := hac' g a' ha'
            rw [hxA] at k1
            rw [hyA] at k3
            have habw : ab < wr.heap.size := Nat.lt_of_lt_of_le hab (Nat.le_trans hB HB.out.size)
            have habw' : ab' < wr.heap.size := Nat.lt_of_lt_of_le hab' (Nat.le_trans hB HB.out.size)
            have hnq := fun w => neq_arc w a a'
            have hgu := gu_arc
            have i2 : (0 : Int) ≤ (g : Int) := by omega
            have i3 : (g : Int) < (m : Int) := by omega
            have HA := Lib.hid ha
            have HA' := Lib.hid ha'
            clear hac hac' ha ha' hxA hyA
            by_cases he : a = a'
            · have q2 : (!decide (a = a')) = false := by rw [decide_eq_true he]; rfl
              rw [q2] at hnq
              have HGN : Hid (x.d.2.take (g + 1) = y.d.2.take (g + 1)) := by
                show _ = _
                rw [List.take_add_one, List.take_add_one, HG.out, HA.out, HA'.out, he]
              clear q2 he HA HA'
              obtain ⟨a1', a2', a3'⟩ := a
              obtain ⟨c1', c2', c3'⟩ := a'
              simp only at a0 a1 a2 b0 b1 b2 hnq
              go_wp2_with fail
              go_quiet (fail)
              go_wp2_with fail
              go_roundw
              case rel => exact ⟨g + 1, by omega, by go_num, HGN, Lib.hid (below_drewN HB.out nq)⟩
              case measure => simp [intOf]; omega
            · have q2 : (!decide (a = a')) = true := by rw [decide_eq_false he]; rfl
              rw [q2] at hnq
              have HN : Hid (decide (H.map (·.d) = H'.map (·.d)) = false) := HNE.out fun e => he (by
                have h1 := HA.out
                rw [e, HA'.out] at h1
                injection h1 with h1
                exact h1.symm)
              clear q2 he HA HA' HG
              obtain ⟨a1', a2', a3'⟩ := a
              obtain ⟨c1', c2', c3'⟩ := a'
              simp only at a0 a1 a2 b0 b1 b2 hnq
              go_wp2_with fail
              go_quiet (fail)
              go_wp2_with fail
              go_ret
              exact ⟨by rw [HN.out]; rfl, below_drewN HB.out nq⟩
          · obtain rfl : m = g := by omega
            have HLN : Hid ((H.take (k + 1)).map (·.d) = (H'.take (k + 1)).map (·.d)) := by
              show _ = _
              have h1 := HG.out
              rw [List.take_of_length_le (by rw [HM.out]; exact Nat.le_refl _), List.take_of_length_le (by rw [HM'.out]; exact Nat.le_refl _)] at h1
              have h2 : x.d = y.d := Prod.ext (HF.out.1.trans HF.out.2.symm) h1
              rw [List.take_add_one, List.take_add_one, HX.out, HY.out, List.map_append, List.map_append, HL.out]
              simp [h2]
            clear HG
            go_wp2_with fail
            go_roundw
            case rel => exact ⟨k + 1, by omega, by go_num, HLN, HB⟩
            case measure => simp [intOf]; omega
    · obtain rfl : k = n := by omega
      rw [List.take_of_length_le (by omega), List.take_of_length_le (by omega)] at HL
      have HN : Hid (decide (H.map (·.d) = H'.map (·.d)) = true) := decide_eq_true HL.out
      clear HL
      go_wp2_with fail
      go_ret
      exact ⟨by rw [HN.out]; rfl, HB.out⟩
end Go.Proofs.YtebdffabfimmkaaDoor
/- The fixed automaton of awake, in plain Lean. -/
namespace Go.Proofs.YtebdffabfimmkaaDoor
open Go.RowKit

def oneD : List St := [(false, [(97, 98, 0), (99, 99, 1)]), (true, [])]
def lAw : List Lst := [⟨false, [(97, 98, 0)], [1]⟩, ⟨false, [(99, 99, 2)], []⟩, ⟨true, [], []⟩]
theorem one_good : Good oneD := (good_iff _).1 (by decide)
theorem lAw_good : LGood lAw := (loose_iff _).1 (by decide)
/-- What is met is told apart. -/
theorem row_nodup {σ : Type} [DecidableEq σ] {W : Bfs σ} (hW : Plain W) (P : σ → Prop) (hP : ∀ x c y, W.step x c = some y → P y) (x : σ) {met : List σ} (hn : met.Nodup) (hm : ∀ z ∈ met, P z) : ∀ n, (W.row x met n).Nodup ∧ ∀ z ∈ W.row x met n, P z
  | 0 => ⟨hn, hm⟩
  | n + 1 => by
    obtain ⟨h1, h2⟩ := row_nodup hW P hP x hn hm n
    rw [Bfs.row]
    cases hs : W.step x n with
    | none => exact ⟨h1, h2⟩
    | some y =>
      simp only
      rw [hW.find, hW.rep]
      cases hf : findE y (W.row x met n) with
      | some i => exact ⟨h1, h2⟩
      | none =>
        refine ⟨List.nodup_append.2 ⟨h1, List.pairwise_singleton _ _, fun a ha b hb => ?_⟩, fun z hz => ?_⟩
        · rw [List.mem_singleton.1 hb]
          intro e
          have := findI_none.1 hf a ha
          rw [e] at this
          simp at this
        · rcases List.mem_append.1 hz with hz | hz
          · exact h2 z hz
          · rw [List.mem_singleton.1 hz]; exact hP x n y hs
theorem run_nodup {σ : Type} [DecidableEq σ] {W : Bfs σ} (hW : Plain W) (P : σ → Prop) (hP : ∀ x c y, W.step x c = some y → P y) {x0 : σ} (h0 : P x0) : ∀ f, (W.run f 0 [x0]).Nodup ∧ ∀ z ∈ W.run f 0 [x0], P z
  | 0 => ⟨List.pairwise_singleton _ _, fun z hz => by rw [List.mem_singleton.1 hz]; exact h0⟩
  | f + 1 => by
    obtain ⟨h1, h2⟩ := run_nodup hW P hP h0 f
    rw [W.run_succ]
    split
    · exact row_nodup hW P hP _ h1 h2 256
    · exact ⟨h1, h2⟩
def IsSet (n : Nat) (S : List Int) : Prop := ∃ P, S = setL n P
theorem step_set (l : List Lst) (x : List Int) (c : Nat) (y : List Int) (h : (subW l).step x c = some y) : IsSet l.length y := by
  have h : stepS l x c = some y := h
  unfold stepS at h
  split at h
  · injection h with h
    exact ⟨_, h.symm⟩
  · cases h
def code3 (S : List Int) : Nat := (if (0 : Int) ∈ S then 1 else 0) + (if (1 : Int) ∈ S then 2 else 0) + (if (2 : Int) ∈ S then 4 else 0)
theorem code3_inj {S T : List Int} (hS : IsSet 3 S) (hT : IsSet 3 T) (h : code3 S = code3 T) : S = T := by
  obtain ⟨P, rfl⟩ := hS
  obtain ⟨Q, rfl⟩ := hT
  refine setL_congr fun x hx => ?_
  have e : ∀ (P : Nat → Prop) (y : Nat), y < 3 → (((y : Nat) : Int) ∈ setL 3 P ↔ P y) := fun P y hy => by
    rw [setL_nat]
    exact ⟨fun h => h.2, fun h => ⟨hy, h⟩⟩
  have p0 := e P 0 (by omega)
  have p1 := e P 1 (by omega)
  have p2 := e P 2 (by omega)
  have r0 := e Q 0 (by omega)
  have r1 := e Q 1 (by omega)
  have r2 := e Q 2 (by omega)
  unfold code3 at h
  have hb : ∀ (p q : Prop) [Decidable p] [Decidable q] (k : Nat), (if p then k else 0) = (if q then k else 0) → 0 < k → (p ↔ q) := fun p q _ _ k h hk => by
    by_cases hp : p <;> by_cases hq : q <;> simp [hp, hq] at h ⊢ <;> omega
  have b0 : ∀ p : Prop, [Decidable p] → (if p then 1 else 0) ≤ 1 := fun p _ => by split <;> omega
  have b1 : ∀ p : Prop, [Decidable p] → ((if p then 2 else 0) = 0 ∨ (if p then 2 else 0) = 2) := fun p _ => by split <;> omega
  have b2 : ∀ p : Prop, [Decidable p] → ((if p then 4 else 0) = 0 ∨ (if p then 4 else 0) = 4) := fun p _ => by split <;> omega
  have x0 := b0 ((0 : Int) ∈ setL 3 P); have y0 := b0 ((0 : Int) ∈ setL 3 Q)
  have x1 := b1 ((1 : Int) ∈ setL 3 P); have y1 := b1 ((1 : Int) ∈ setL 3 Q)
  have x2 := b2 ((2 : Int) ∈ setL 3 P); have y2 := b2 ((2 : Int) ∈ setL 3 Q)
  have e0 := hb _ _ 1 (show (if (0 : Int) ∈ setL 3 P then 1 else 0) = (if (0 : Int) ∈ setL 3 Q then 1 else 0) by omega) (by omega)
  have e1 := hb _ _ 2 (show (if (1 : Int) ∈ setL 3 P then 2 else 0) = (if (1 : Int) ∈ setL 3 Q then 2 else 0) by omega) (by omega)
  have e2 := hb _ _ 4 (show (if (2 : Int) ∈ setL 3 P then 4 else 0) = (if (2 : Int) ∈ setL 3 Q then 4 else 0) by omega) (by omega)
  have hx3 : x = 0 ∨ x = 1 ∨ x = 2 := by omega
  rcases hx3 with rfl | rfl | rfl
  · exact p0.symm.trans (e0.trans r0)
  · exact p1.symm.trans (e1.trans r1)
  · exact p2.symm.trans (e2.trans r2)
theorem lAw_few (f : Nat) : ((subW lAw).run f 0 [setL 3 (Clo lAw fun x => x = 0)]).length ≤ 8 := by
  obtain ⟨h1, h2⟩ := run_nodup (subW_plain lAw) (IsSet 3) (fun x c y h => step_set lAw x c y h) (x0 := setL 3 (Clo lAw fun x => x = 0)) ⟨_, rfl⟩ f
  generalize (subW lAw).run f 0 [setL 3 (Clo lAw fun x => x = 0)] = met at *
  have h3 : Apart id (met.map code3) := by
    unfold Apart
    rw [List.pairwise_map]
    have : met.Pairwise fun a b => a ∈ met ∧ b ∈ met ∧ a ≠ b := by
      refine List.Pairwise.and_mem.1 h1
    exact this.imp fun ⟨ha, hb, hne⟩ e => hne (code3_inj (h2 _ ha) (h2 _ hb) e)
  have h4 := apart_few (cnt := 8) h3 fun z hz => by
    obtain ⟨S, _, rfl⟩ := List.mem_map.1 hz
    show code3 S < 8
    unfold code3
    split <;> split <;> split <;> omega
  rwa [List.length_map] at h4
/-! ### What it takes -/
theorem clo0 (x : Nat) : Clo lAw (fun x => x = 0) x ↔ x = 0 ∨ x = 1 := by
  constructor
  · intro h
    induction h with
    | base h => exact .inl h
    | @step y x s _ hs hx ih =>
      rcases ih with rfl | rfl
      · simp [lAw] at hs
        subst hs
        simp at hx
        omega
      · simp [lAw] at hs
        subst hs
        simp at hx
  · rintro (rfl | rfl)
    · exact .base rfl
    · exact .step (y := 0) (s := ⟨false, [(97, 98, 0)], [1]⟩) (.base rfl) rfl (by simp)
theorem clo2 (x : Nat) : Clo lAw (fun x => x = 2) x ↔ x = 2 := by
  constructor
  · intro h
    induction h with
    | base h => exact h
    | @step y x s _ hs hx ih =>
      subst ih
      simp [lAw] at hs
      subst hs
      simp at hx
  · rintro rfl
    exact .base rfl
noncomputable def aS0 : List Int := setL 3 (Clo lAw fun x => x = 0)
noncomputable def aS2 : List Int := setL 3 (Clo lAw fun x => x = 2)
theorem mem0 (z : Int) : z ∈ aS0 ↔ z = 0 ∨ z = 1 := by
  unfold aS0
  rw [setL_mem]
  constructor
  · rintro ⟨x, rfl, _, h⟩
    rcases (clo0 x).1 h with rfl | rfl <;> simp
  · rintro (rfl | rfl)
    · exact ⟨0, rfl, by omega, (clo0 0).2 (.inl rfl)⟩
    · exact ⟨1, rfl, by omega, (clo0 1).2 (.inr rfl)⟩
theorem mem2 (z : Int) : z ∈ aS2 ↔ z = 2 := by
  unfold aS2
  rw [setL_mem]
  constructor
  · rintro ⟨x, rfl, _, h⟩
    rw [(clo2 x).1 h]
    rfl
  · rintro rfl
    exact ⟨2, rfl, by omega, (clo2 2).2 rfl⟩
theorem arcs0 : arcsAt lAw 0 = [(97, 98, 0)] := rfl
theorem arcs1 : arcsAt lAw 1 = [(99, 99, 2)] := rfl
theorem arcs2 : arcsAt lAw 2 = [] := rfl
theorem over0 (c x : Nat) : overP lAw aS0 c x ↔ (97 ≤ c ∧ c ≤ 98 ∧ x = 0) ∨ (c = 99 ∧ x = 2) := by
  unfold overP
  constructor
  · rintro ⟨z, hz, a, ha, h1, h2, h3⟩
    rcases (mem0 z).1 hz with rfl | rfl
    · rw [arcs0, List.mem_singleton] at ha
      subst ha
      simp only at h1 h2 h3
      omega
    · rw [arcs1, List.mem_singleton] at ha
      subst ha
      simp only at h1 h2 h3
      omega
  · rintro (⟨h1, h2, rfl⟩ | ⟨rfl, rfl⟩)
    · exact ⟨0, (mem0 0).2 (.inl rfl), (97, 98, 0), by rw [arcs0]; simp, by simp only; omega, by simp only; omega, rfl⟩
    · exact ⟨1, (mem0 1).2 (.inr rfl), (99, 99, 2), by rw [arcs1]; simp, by simp, by simp, rfl⟩
theorem over2 (c x : Nat) : ¬ overP lAw aS2 c x := by
  rintro ⟨z, hz, a, ha, _⟩
  rw [(mem2 z).1 hz, arcs2] at ha
  cases ha
theorem step0 (c : Nat) : stepS lAw aS0 c = if 97 ≤ c ∧ c ≤ 98 then some aS0 else if c = 99 then some aS2 else none := by
  unfold stepS
  by_cases h1 : 97 ≤ c ∧ c ≤ 98
  · have e : overP lAw aS0 c = fun x => x = 0 := funext fun x => propext (by rw [over0]; omega)
    rw [if_pos h1, e, if_pos ⟨0, rfl⟩]
    rfl
  · rw [if_neg h1]
    by_cases h2 : c = 99
    · have e : overP lAw aS0 c = fun x => x = 2 := funext fun x => propext (by rw [over0]; omega)
      rw [if_pos h2, e, if_pos ⟨2, rfl⟩]
      rfl
    · rw [if_neg h2, if_neg]
      rintro ⟨x, hx⟩
      rw [over0] at hx
      omega
theorem step2 (c : Nat) : stepS lAw aS2 c = none := by
  unfold stepS
  rw [if_neg]
  rintro ⟨x, hx⟩
  exact over2 c x hx
theorem fin0 : finS lAw aS0 = false := by
  unfold finS
  rw [List.any_eq_false]
  intro z hz
  rcases (mem0 z).1 hz with rfl | rfl <;> decide
theorem fin2 : finS lAw aS2 = true := by
  unfold finS
  rw [List.any_eq_true]
  exact ⟨2, (mem2 2).2 rfl, by decide⟩
theorem ostep0 (c : Nat) : (auOf oneD).step 0 c = if 97 ≤ c ∧ c ≤ 98 then some 0 else if c = 99 then some 1 else none := by
  show (lookA [(97, 98, 0), (99, 99, 1)] (c : Int)).map Int.toNat = _
  rw [lookA_cons, lookA_cons]
  by_cases h1 : 97 ≤ c ∧ c ≤ 98
  · rw [if_pos h1, if_pos (by simp only; omega)]
    rfl
  · rw [if_neg h1, if_neg (by simp only; omega)]
    by_cases h2 : c = 99
    · rw [if_pos h2, if_pos (by simp only; omega)]
      rfl
    · rw [if_neg h2, if_neg (by simp only; omega)]
      rfl
theorem ostep1 (c : Nat) : (auOf oneD).step 1 c = none := rfl
theorem aw_leq : Leq (auOf oneD) 0 ⟨finS lAw, stepS lAw⟩ aS0 := by
  have h2 : ∀ s, (auOf oneD).acc 1 s = (⟨finS lAw, stepS lAw⟩ : Au (List Int)).acc aS2 s := fun s => by
    cases s with
    | nil => exact fin2.symm
    | cons c r =>
      rw [Au.acc, Au.acc, ostep1]
      have hs : (⟨finS lAw, stepS lAw⟩ : Au (List Int)).step aS2 c = none := step2 c
      rw [hs]
  intro s
  induction s with
  | nil => exact fin0.symm
  | cons c r ih =>
    rw [Au.acc, Au.acc, ostep0]
    have hs : (⟨finS lAw, stepS lAw⟩ : Au (List Int)).step aS0 c = if 97 ≤ c ∧ c ≤ 98 then some aS0 else if c = 99 then some aS2 else none := step0 c
    rw [hs]
    split
    · by_cases h1 : 97 ≤ c ∧ c ≤ 98
      · rw [if_pos h1, if_pos h1]; exact ih
      · rw [if_neg h1, if_neg h1]
        by_cases h2' : c = 99
        · rw [if_pos h2', if_pos h2']; exact h2 r
        · rw [if_neg h2', if_neg h2']
    · rfl
theorem olive1 : (auOf oneD).live 1 := ⟨[], rfl⟩
theorem olive0 : (auOf oneD).live 0 := ⟨[99], rfl⟩
theorem ostepL0 (c : Nat) : (auOf oneD).stepL 0 c = if 97 ≤ c ∧ c ≤ 98 then some 0 else if c = 99 then some 1 else none := by
  unfold Au.stepL
  rw [ostep0]
  by_cases h1 : 97 ≤ c ∧ c ≤ 98
  · rw [if_pos h1]
    simp only
    rw [if_pos olive0]
  · rw [if_neg h1]
    by_cases h2 : c = 99
    · rw [if_pos h2]
      simp only
      rw [if_pos olive1]
    · rw [if_neg h2]
theorem ostepL1 (c : Nat) : (auOf oneD).stepL 1 c = none := by
  unfold Au.stepL
  rw [ostep1]
theorem one_cls : Cls oneD id id := by
  have hne : ¬ Leq (auOf oneD) 0 (auOf oneD) 1 := fun h => by
    have := h []
    exact absurd this (by decide)
  refine ⟨one_good, fun x hx y hy => ?_, fun x hx _ => ⟨hx, rfl⟩⟩
  have hx : x < 2 := hx
  have hy : y < 2 := hy
  have hx2 : x = 0 ∨ x = 1 := by omega
  have hy2 : y = 0 ∨ y = 1 := by omega
  rcases hx2 with rfl | rfl <;> rcases hy2 with rfl | rfl
  · exact ⟨fun _ => Leq.refl _ _, fun _ => rfl⟩
  · exact ⟨fun h => (by cases h), fun h => absurd h hne⟩
  · exact ⟨fun h => (by cases h), fun h => absurd h.symm hne⟩
  · exact ⟨fun _ => Leq.refl _ _, fun _ => rfl⟩
theorem og0 : runs (gOf oneD id 0) 256 = [(97, 98, 0), (99, 99, 1)] := by
  have e : ∀ c, gOf oneD id 0 c = if 97 ≤ c ∧ c ≤ 98 then some 0 else if c = 99 then some 1 else none := fun c => by
    unfold gOf
    rw [ostepL0]
    simp
  rw [runs_congr 256 fun c _ => e c]
  decide +kernel
theorem og1 : runs (gOf oneD id 1) 256 = [] := by
  have e : ∀ c, gOf oneD id 1 c = none := fun c => by
    unfold gOf
    rw [ostepL1]
    rfl
  rw [runs_congr 256 fun c _ => e c]
  decide +kernel
theorem one_least : LeastIs (auOf oneD) 0 oneD := by
  have h0 := NumP.start one_cls
  have h1 := h0.step one_cls (x := 0) rfl
  rw [og0] at h1
  have e1 : metA id id [0] [(97, 98, 0), (99, 99, 1)] = [0, 1] := by decide
  rw [e1] at h1
  have h2 := h1.step one_cls (x := 1) rfl
  rw [og1] at h2
  have e2 : metA id id [0, 1] [] = [0, 1] := rfl
  rw [e2] at h2
  have h3 := h2.last one_cls rfl olive0
  exact h3
end Go.Proofs.YtebdffabfimmkaaDoor
