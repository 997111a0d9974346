/- The loop of DfaTakes over the texts. -/
import Derived.Test.YtebdffabfimmkaaDoorHDfaTakes20
import Derived.Test.YtebdffabfimmkaaDoorHDfaTakes7
import Derived.Test.YtebdffabfimmkaaDoorHDfaTakes21
import Derived.Test.YtebdffabfimmkaaDoorHDfaTakes17
namespace Go.Proofs.YtebdffabfimmkaaDoor
open Go.RowKit Go.Maps

set_option linter.unusedVariables false in
set_option maxRecDepth 100000 in
set_option maxHeartbeats 8000000 in
theorem takes_loop (w W0 : World) (h0 : Below w.heap.size w W0) (A Ax : Option Addr) (n c nx cx : Nat) (H : List Lsh) (X : List Sh) (HA : Hid (LoIn W0 W0.heap.size A n c H)) (HG : Hid (LGood (H.map (·.d)))) (HX : Hid (StsIn W0 W0.heap.size Ax nx cx X))
    (At : Option Addr) (m ct : Nat) (y : Nat → ByteArray) (HT : Hid (TextsIn w At m ct y)) (HPX : Hid (∀ t, takesB (X.map (·.d)) t = looseTakes (H.map (·.d)) t))
    (c2 c3 c6 c8 c9 c10 c11 c12 c13 c14 c15 c16 c17 c18 c19 c20 c21 c22 c23 c24 c25 c26 c27 c28 c29 c30 c31 c32 c33 c34 u4 u35 u36 u37 u38 u39 u40 u41 u42 u43 u44 u45 u46 u47 u48 u49 u50 u51 u52 u53 u54 u55 u56 u57 : Value) (Q0 : Exit → Act → World → Prop) (hQ0 : ∀ c (a a' : Act) w, a.defers = a'.defers → Q0 (.panic c) a w → Q0 (.panic c) a' w)
    (hexit : ∀ (i : Nat) (W : World) (u4 u35 u36 u37 u38 u39 u40 u41 u42 u43 u44 u45 u46 u47 u48 u49 u50 u51 u52 u53 u54 u55 u56 u57 : Value), Hid (Below W0.heap.size W0 W) → Q0 (.exit 0) ⟨List.toArray (.slice A n c :: .slice At m ct :: c2 :: c3 :: u4 :: .slice Ax nx cx :: c6 :: .int .i64 (i : Int) :: c8 :: c9 :: c10 :: c11 :: c12 :: c13 :: c14 :: c15 :: c16 :: c17 :: c18 :: c19 :: c20 :: c21 :: c22 :: c23 :: c24 :: c25 :: c26 :: c27 :: c28 :: c29 :: c30 :: c31 :: c32 :: c33 :: c34 :: u35 :: u36 :: u37 :: u38 :: u39 :: u40 :: u41 :: u42 :: u43 :: u44 :: u45 :: u46 :: u47 :: u48 :: u49 :: u50 :: u51 :: u52 :: u53 :: u54 :: u55 :: u56 :: u57 :: []), []⟩ W) :
    Code.wp Tryd.prog (.loop (loopOf Tryd.f5 0)) Q0 ⟨List.toArray (.slice A n c :: .slice At m ct :: c2 :: c3 :: u4 :: .slice Ax nx cx :: c6 :: .int .i64 (0 : Int) :: c8 :: c9 :: c10 :: c11 :: c12 :: c13 :: c14 :: c15 :: c16 :: c17 :: c18 :: c19 :: c20 :: c21 :: c22 :: c23 :: c24 :: c25 :: c26 :: c27 :: c28 :: c29 :: c30 :: c31 :: c32 :: c33 :: c34 :: u35 :: u36 :: u37 :: u38 :: u39 :: u40 :: u41 :: u42 :: u43 :: u44 :: u45 :: u46 :: u47 :: u48 :: u49 :: u50 :: u51 :: u52 :: u53 :: u54 :: u55 :: u56 :: u57 :: []), []⟩ W0 := by
  have HB0 := Lib.hid h0
  have hmc := HT.out.nc
  have hmb : m ≤ 1125899906842624 := by
    have := HT.out.rb
    unfold reachBytes at this
    omega
  conv => arg 2; arg 1; whnf
  go_loopw [7] (fun iv wr => ∃ i : Nat, i ≤ 20 ∧ iv = .int .i64 i ∧ Hid (Below W0.heap.size W0 wr)) (fun iv _ => 20 - (intOf iv).toNat)
  case atStart => exact ⟨0, Nat.zero_le _, rfl, brefl W0⟩
  case round =>
    obtain ⟨i, hi, rfl, HB⟩ := hrel
    by_cases hm : i < m
    · have hm2 : (i : Int) < (m : Int) := by omega
      have q0 : decide ((i : Int) < (m : Int)) = true := decide_eq_true hm2
      have q01 : decide (i < m) = true := decide_eq_true hm
      by_cases h20 : i < 20
      · have q1 : decide ((i : Int) < 20) = true := decide_eq_true (by omega)
        have q11 : decide (i < 20) = true := decide_eq_true h20
        obtain ⟨b, off, t, rfl, hbw, ht, htl, d0⟩ := HT.out.get (bcall HB0.out HB.out) hm
        obtain ⟨p, hp⟩ : ∃ p, looseTakes (H.map (·.d)) t = p := ⟨_, rfl⟩
        have HTX : Hid (takesB (X.map (·.d)) t = p) := (HPX.out t).trans hp
        have HAC : Hid (∀ W, Below wr.heap.size wr W → Calls Tryd.prog 19 #[.slice A n c, .string ⟨t.toArray⟩] W fun e w' => e = .returned (.bool p) ∧ Below wr.heap.size wr w') := fun W hW => by
          have h1 := bcall HB.out hW
          refine (takes_any W W0.heap.size h1.size A n c H (HA.out.keep h1 (Nat.le_refl _)) HG.out t htl).mono ?_
          rintro e w' ⟨rfl, hb⟩
          exact ⟨by rw [hp], bcall hW hb⟩
        have HACX : Hid (∀ W, Below wr.heap.size wr W → Calls Tryd.prog 11 #[.slice Ax nx cx, .string ⟨t.toArray⟩] W fun e w' => e = .returned (.bool p) ∧ Below wr.heap.size wr w') := fun W hW => by
          have h1 := bcall HB.out hW
          refine (accepts_any W W0.heap.size h1.size Ax nx cx X (HX.out.keep h1 (Nat.le_refl _)) t htl).mono ?_
          rintro e w' ⟨rfl, hb⟩
          exact ⟨by rw [HTX.out], bcall hW hb⟩
        have HD0 : Hid (∀ W, Below wr.heap.size wr W → W.cell? ⟨b, off + i, none⟩ = some (.string ⟨t.toArray⟩)) := fun W hW => (hW.cell (p := ⟨b, off + i, none⟩) hbw).trans d0
        have HD1 := Lib.hid (HD0.out wr (brefl wr))
        clear hp ht
        cases p
        all_goals
          go_wp2_with fail
          go_region_held3 (fun w' => w'.cell? ⟨b, off + i, none⟩ = some (.string ⟨t.toArray⟩))
            (first
              | assumption
              | exact HD1.out
              | (refine HD0.out _ ?_; (repeat (first | exact brefl _ | exact HW1.out | exact HW2.out | refine Below.drew ?_ | refine bnew ?_ _)); done))
            (first
              | (go_at_call 19
                 refine (HAC.out _ (by repeat (first | exact HW1.out | refine Below.drew ?_ | refine bnew ?_ _))).mono ?_
                 rintro e w2 ⟨rfl, hb2⟩
                 have HW2 := Lib.hid hb2
                 clear hb2)
              | (go_at_call 11
                 refine (HACX.out _ (by repeat (first | exact brefl _ | refine Below.drew ?_ | refine bnew ?_ _))).mono ?_
                 rintro e w1 ⟨rfl, hb1⟩
                 have HW1 := Lib.hid hb1
                 clear hb1))
          all_goals
            have HWN := Lib.hid (bcall HB.out HW2.out)
            clear HB
            go_wp2_with fail
            go_roundw
            case rel => exact ⟨i + 1, by omega, by go_num, HWN⟩
            case measure => simp [intOf]; omega
      · obtain rfl : i = 20 := by omega
        have q1 : decide ((20 : Int) < 20) = false := decide_eq_false (by omega)
        go_wp2_with fail
        exact HB
    · have q0 : decide ((i : Int) < (m : Int)) = false := decide_eq_false (by omega)
      have q01 : decide (i < m) = false := decide_eq_false hm
      go_wp2_with fail
      exact HB
end Go.Proofs.YtebdffabfimmkaaDoor
